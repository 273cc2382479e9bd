/-
  Texts that the proof of BulkTurns leans on, part 6: contracts of functions, and plain laws.
-/
import Derived.Test.YtjokcagggmjgmaaGreatMBulkTurns5
import Derived.Deep.Slices
import Derived.Deep.Fields
import Derived.ChangeSame
import Derived.ProofKit
import Derived.OpenShut
import Derived.ScopeJumps
import Derived.WalkMore
import Derived.Laws.EntriesVeiled
/-! SrtG -/
namespace Go.Proofs.YtjokcagggmjgmaaGreat
open Go.RowKit
set_option linter.unusedVariables false
set_option linter.unusedSimpArgs false
set_option maxRecDepth 100000

theorem mid_eq {i j h : Nat} (e : (i + j) / 2 = h) (hb : i + j ≤ 100000) : wrap64 (IntKind.u64.wrap (wrap64 ((i : Int) + (j : Int))) / 2) = ((h : Nat) : Int) := by
  rw [show wrap64 ((i : Int) + (j : Int)) = ((i + j : Nat) : Int) by unfold wrap64; omega, show IntKind.u64.wrap ((i + j : Nat) : Int) = ((i + j : Nat) : Int) by rw [IntKind.wrap_u64]; omega]
  unfold wrap64; omega
theorem swap_mid2 (A : List Pe) (x y : Pe) (B : List Pe) : ((A ++ x :: y :: B).set A.length y).set (A.length + 1) x = A ++ y :: x :: B := by
  rw [List.set_append_right _ _ (by omega), Nat.sub_self, List.set_append_right _ _ (by omega), Nat.add_sub_cancel_left]
  rfl
/-- the runs are put together -/
def MrgR (W0 : World) (g n : Nat) (X L Y : List Pe) (e : Ending) (w' : World) : Prop := ∃ M, e = .returned (.tuple #[]) ∧ PR W0 w' g n (X ++ (M ++ Y)) ∧ M.length = L.length ∧ Stb L M ∧ Srt M
/-- the call as it is compared: two elements of the row -/
theorem ord_row {W0 wr : World} {g n k : Nat} {ys : List Pe} (hpr : PR W0 wr g n ys) {x y : Pe} (hx : x ∈ ys) (hy : y ∈ ys) (k1 : 1 ≤ k) (k16 : k ≤ 16) (hk : ∀ x ∈ ys, x.2.p.length = k ∧ ∀ q ∈ x.2.p, q < 2 ^ 64) :
    ∀ W, Below wr.heap.size wr W → Calls Tryz.prog 119 #[.agg #[x.1, .int .u64 (x.2.v : Nat)], .agg #[y.1, .int .u64 (y.2.v : Nat)]] W fun e w' => e = .returned (.int .i64 (Zb.cmp x.2.p y.2.p)) ∧ Below W.heap.size W w' := fun W hb => by
  have h1 := hk x hx
  have h2 := hk y hy
  have hb2 := hpr.bel.trans (hb.mono hpr.bel.size)
  exact order_any W x.2.p y.2.p x.1 y.1 x.2.v y.2.v ((hpr.pts x hx).below hb2) ((hpr.pts y hy).below hb2) (by rw [h1.1, h2.1]) (by rw [h1.1]; exact k1) (by rw [h1.1]; exact k16) h1.2 h2.2
set_option maxHeartbeats 8000000 in
theorem sym_left (W0 w : World) (g n a mm b m c k : Nat) (X B Y : List Pe) (x : Pe) (ha : X.length = a) (hmm : a + 1 = mm) (hb : mm + B.length = b) (hm : b + Y.length = m) (hmx : m ≤ 1000) (k1 : 1 ≤ k) (k16 : k ≤ 16) (h : PR W0 w g n (X ++ (x :: (B ++ Y))))
    (hk : ∀ x' ∈ X ++ (x :: (B ++ Y)), x'.2.p.length = k ∧ ∀ q ∈ x'.2.p, q < 2 ^ 64) (hB : Srt B) :
    Calls Tryz.prog 179 #[.slice (some ⟨g, 0, none⟩) m c, .int .i64 (a : Nat), .int .i64 (mm : Nat), .int .i64 (b : Nat), .func (.func 119) #[] #[]] w fun e w' => MrgR W0 g n X (x :: B) Y e w' := by
  have hent := enters_lit' Tryz.func119 (by kernel_rfl) (by kernel_rfl)
  have HP0 := Lib.hid h
  have HD := Lib.hid (And.intro ha (And.intro hmm (And.intro hb (And.intro hm hmx))))
  have HK := Lib.hid (And.intro hk (And.intro k1 (And.intro k16 hB)))
  have HW1 := Lib.hid (show wrap64 ((mm : Int) - (a : Int)) = ((1 : Nat) : Int) from wrap_sub (by omega) (by omega))
  have hw1 : wrap64 ((mm : Int) - (a : Int)) = 1 := HW1.out
  clear ha hmm hb hm hmx k1 k16 h hk hB
  go_enter Tryz.func179, Tryz.ntmps179
  go_wp2_with fail
  go_loopw [10, 11, 12] (fun iv jv _ wr => ∃ q r : Nat, iv = .int .i64 ((mm + q : Nat) : Int) ∧ jv = .int .i64 ((mm + r : Nat) : Int) ∧ q ≤ r ∧ r ≤ B.length ∧ (∀ t (h : t < B.length), t < q → ek B[t] < ek x) ∧ (∀ t (h : t < B.length), r ≤ t → ek x ≤ ek B[t]) ∧ PR W0 wr g n (X ++ (x :: (B ++ Y)))) (fun iv jv _ _ => (intOf jv).toNat - (intOf iv).toNat)
  case atStart => exact ⟨0, B.length, rfl, by rw [HD.out.2.2.1], Nat.zero_le _, Nat.le_refl _, (fun t _ h => by omega), (fun t h h' => by omega), HP0.out⟩
  case round =>
    obtain ⟨q, r, rfl, rfl, hqr, hrl, hlo, hhi, hpr⟩ := hrel
    have HI := Lib.hid (And.intro hqr (And.intro hrl (And.intro hlo (And.intro hhi hpr))))
    by_cases hlt : q < r
    · obtain ⟨d1, d2, d3, d4, d5⟩ := HD.out
      obtain ⟨i, hi⟩ : ∃ i, mm + q = i := ⟨_, rfl⟩
      obtain ⟨j, hj⟩ : ∃ j, mm + r = j := ⟨_, rfl⟩
      obtain ⟨h, hh⟩ : ∃ h, (i + j) / 2 = h := ⟨_, rfl⟩
      obtain ⟨t, ht⟩ : ∃ t, h = mm + t := ⟨h - mm, by omega⟩
      have htB : t < B.length := by omega
      have hqt : q ≤ t ∧ t < r := by omega
      have ey : (X ++ (x :: (B ++ Y)))[h]? = some B[t] := by
        rw [List.getElem?_append_right (by omega), show h - X.length = t + 1 by omega, List.getElem?_cons_succ, List.getElem?_append_left htB, List.getElem?_eq_getElem htB]
      have ex : (X ++ (x :: (B ++ Y)))[a]? = some x := by
        rw [List.getElem?_append_right (by omega), show a - X.length = 0 by omega]; rfl
      obtain ⟨k0, k1, ry⟩ := hpr.at2 h _ ey
      obtain ⟨q0, q1, rx⟩ := hpr.at2 a _ ex
      have HOR := Lib.hid (ord_row hpr (List.mem_of_getElem? ey) (List.mem_of_getElem? ex) HK.out.2.1 HK.out.2.2.1 HK.out.1)
      have HLT := Lib.hid (show ek B[t] < ek x → ∀ s (h : s < B.length), s < t + 1 → ek B[s] < ek x from fun h0 s hs h' => by
        by_cases e : s = t
        · subst e; exact h0
        · have := List.pairwise_iff_getElem.1 HK.out.2.2.2 s t hs htB (by omega); omega)
      have HGE := Lib.hid (show ¬ ek B[t] < ek x → ∀ s (h : s < B.length), t ≤ s → ek x ≤ ek B[s] from fun h0 s hs h' => by
        by_cases e : s = t
        · subst e; omega
        · have := List.pairwise_iff_getElem.1 HK.out.2.2.2 t s htB hs (by omega); omega)
      have hth := fun r => hpr.thaw r
      have hgl := hpr.lt
      generalize B[t] = y at *
      obtain ⟨ux, px, vx⟩ := x
      obtain ⟨uy, py, vy⟩ := y
      simp only at k0 k1 q0 q1 rx ry HOR
      obtain ⟨z, hz⟩ : ∃ z, Zb.cmp py px = z := ⟨_, rfl⟩
      rw [hz] at HOR
      have HZ := Lib.hid (show z < 0 ↔ pkey py < pkey px from hz ▸ cmp_neg py px)
      have hij : (i : Int) < (j : Int) := by omega
      have hh1 : (h : Int) < (m : Int) := by omega
      have hh2 : (0 : Int) ≤ (h : Int) := by omega
      have ha1 : (a : Int) < (m : Int) := by omega
      have ha2 : (0 : Int) ≤ (a : Int) := by omega
      have HN := Lib.hid (And.intro hi (And.intro hj (And.intro ht (And.intro hqt htB))))
      have HW2 := Lib.hid (show wrap64 ((h : Int) + 1) = ((h + 1 : Nat) : Int) from wrap_succ (by omega))
      have HMW := Lib.hid (mid_eq hh (by omega))
      rw [hi, hj]
      obtain ⟨Ax, cx, rfl, _⟩ := RdU.point rx
      obtain ⟨Ay, cy, rfl, _⟩ := RdU.point ry
      clear hlo hhi hpr hqr hrl hz ey ex rx ry hi hj hh ht htB hqt hlt d1 d2 d3 d4 d5
      go_wp2_with fail
      rw [HMW.out]
      refine wp_region_vals 10 [fun z9 _ => z9 = .func (.func 119) #[] #[],
        fun z9 _ => z9 = .slice (some ⟨g, 0, none⟩) m c,
        fun z9 _ => z9 = .int .i64 (h : Nat),
        fun z9 _ => z9 = .pointer (some ⟨g, h * 2, none⟩),
        fun z9 _ => z9 = .agg #[.slice Ay py.length cy, .int .u64 (vy : Nat)],
        fun z9 _ => z9 = .slice (some ⟨g, 0, none⟩) m c,
        fun z9 _ => z9 = .int .i64 (a : Nat),
        fun z9 _ => z9 = .pointer (some ⟨g, a * 2, none⟩),
        fun z9 _ => z9 = .agg #[.slice Ax px.length cx, .int .u64 (vx : Nat)],
        fun z9 _ => z9 = .int .i64 z]
        (by kernel_rfl) (by kernel_rfl) (by kernel_rfl) (by kernel_rfl) ?_ ?_ ?_
      · intro V hV v w1 w2 h hb
        simp only [List.mem_cons, List.not_mem_nil, or_false] at hV
        rcases hV with rfl | rfl | rfl | rfl | rfl | rfl | rfl | rfl | rfl | rfl
        all_goals first | exact h | (exact h)
      · intro iq oq hiq hoq
        match iq, hiq with
        | 0, _ =>
        obtain rfl := Option.some.inj hoq
        intro a1 w1 K hk hK
        have e4 : a1.tmps.getD 4 undef = .func (.func 119) #[] #[] := hk.same 4 (by simp)
        simp [Region.wanted, Oper.wp, Act.eval, go_sem, e4, k0, k1, q0, q1, hh1, hh2, ha1, ha2, hgl, hent]
        exact hK _ _ (Below.refl _ _) rfl
        | 1, _ =>
        obtain rfl := Option.some.inj hoq
        intro a1 w1 K hk hK
        have e0 : a1.tmps.getD 0 undef = .slice (some ⟨g, 0, none⟩) m c := hk.same 0 (by simp)
        simp [Region.wanted, Oper.wp, Act.eval, go_sem, e0, k0, k1, q0, q1, hh1, hh2, ha1, ha2, hgl, hent]
        exact hK _ _ (Below.refl _ _) rfl
        | 2, _ =>
        obtain rfl := Option.some.inj hoq
        intro a1 w1 K hk hK
        have e12 : a1.tmps.getD 12 undef = .int .i64 (h : Nat) := hk.same 12 (by simp)
        simp [Region.wanted, Oper.wp, Act.eval, go_sem, e12, k0, k1, q0, q1, hh1, hh2, ha1, ha2, hgl, hent]
        exact hK _ _ (Below.refl _ _) rfl
        | 3, _ =>
        obtain rfl := Option.some.inj hoq
        intro a1 w1 K hk hK
        have d41 : a1.tmps.getD 41 undef = .slice (some ⟨g, 0, none⟩) m c := hk.deps ⟨1, .data⟩ (by simp) rfl _ _ rfl rfl
        have d42 : a1.tmps.getD 42 undef = .int .i64 (h : Nat) := hk.deps ⟨2, .data⟩ (by simp) rfl _ _ rfl rfl
        simp [Region.wanted, Oper.wp, Act.eval, go_sem, d41, d42, k0, k1, q0, q1, hh1, hh2, ha1, ha2, hgl, hent]
        exact hK _ _ (Below.refl _ _) rfl
        | 4, _ =>
        obtain rfl := Option.some.inj hoq
        intro a1 w1 K hk hK
        have d43 : a1.tmps.getD 43 undef = .pointer (some ⟨g, h * 2, none⟩) := hk.deps ⟨3, .data⟩ (by simp) rfl _ _ rfl rfl
        have c0 : w1.cell? ⟨g, h * 2, none⟩ = some (.slice Ay py.length cy) := Below.keeps hk.ext _ _ (by simp [go_sem, k0, k1, q0, q1, hh1, hh2, ha1, ha2, hgl, hent])
        have c1 : w1.cell? ⟨g, h * 2 + 1, none⟩ = some (.int .u64 (vy : Nat)) := Below.keeps hk.ext _ _ (by simp [go_sem, k0, k1, q0, q1, hh1, hh2, ha1, ha2, hgl, hent])
        have c2 : w1.cell? ⟨g, a * 2, none⟩ = some (.slice Ax px.length cx) := Below.keeps hk.ext _ _ (by simp [go_sem, k0, k1, q0, q1, hh1, hh2, ha1, ha2, hgl, hent])
        have c3 : w1.cell? ⟨g, a * 2 + 1, none⟩ = some (.int .u64 (vx : Nat)) := Below.keeps hk.ext _ _ (by simp [go_sem, k0, k1, q0, q1, hh1, hh2, ha1, ha2, hgl, hent])
        simp [Region.wanted, Oper.wp, Act.eval, go_sem, d43, c0, c1, c2, c3, k0, k1, q0, q1, hh1, hh2, ha1, ha2, hgl, hent]
        exact hK _ _ (Below.refl _ _) rfl
        | 5, _ =>
        obtain rfl := Option.some.inj hoq
        intro a1 w1 K hk hK
        have e0 : a1.tmps.getD 0 undef = .slice (some ⟨g, 0, none⟩) m c := hk.same 0 (by simp)
        simp [Region.wanted, Oper.wp, Act.eval, go_sem, e0, k0, k1, q0, q1, hh1, hh2, ha1, ha2, hgl, hent]
        exact hK _ _ (Below.refl _ _) rfl
        | 6, _ =>
        obtain rfl := Option.some.inj hoq
        intro a1 w1 K hk hK
        have e1 : a1.tmps.getD 1 undef = .int .i64 (a : Nat) := hk.same 1 (by simp)
        simp [Region.wanted, Oper.wp, Act.eval, go_sem, e1, k0, k1, q0, q1, hh1, hh2, ha1, ha2, hgl, hent]
        exact hK _ _ (Below.refl _ _) rfl
        | 7, _ =>
        obtain rfl := Option.some.inj hoq
        intro a1 w1 K hk hK
        have d45 : a1.tmps.getD 45 undef = .slice (some ⟨g, 0, none⟩) m c := hk.deps ⟨5, .data⟩ (by simp) rfl _ _ rfl rfl
        have d46 : a1.tmps.getD 46 undef = .int .i64 (a : Nat) := hk.deps ⟨6, .data⟩ (by simp) rfl _ _ rfl rfl
        simp [Region.wanted, Oper.wp, Act.eval, go_sem, d45, d46, k0, k1, q0, q1, hh1, hh2, ha1, ha2, hgl, hent]
        exact hK _ _ (Below.refl _ _) rfl
        | 8, _ =>
        obtain rfl := Option.some.inj hoq
        intro a1 w1 K hk hK
        have d47 : a1.tmps.getD 47 undef = .pointer (some ⟨g, a * 2, none⟩) := hk.deps ⟨7, .data⟩ (by simp) rfl _ _ rfl rfl
        have c0 : w1.cell? ⟨g, h * 2, none⟩ = some (.slice Ay py.length cy) := Below.keeps hk.ext _ _ (by simp [go_sem, k0, k1, q0, q1, hh1, hh2, ha1, ha2, hgl, hent])
        have c1 : w1.cell? ⟨g, h * 2 + 1, none⟩ = some (.int .u64 (vy : Nat)) := Below.keeps hk.ext _ _ (by simp [go_sem, k0, k1, q0, q1, hh1, hh2, ha1, ha2, hgl, hent])
        have c2 : w1.cell? ⟨g, a * 2, none⟩ = some (.slice Ax px.length cx) := Below.keeps hk.ext _ _ (by simp [go_sem, k0, k1, q0, q1, hh1, hh2, ha1, ha2, hgl, hent])
        have c3 : w1.cell? ⟨g, a * 2 + 1, none⟩ = some (.int .u64 (vx : Nat)) := Below.keeps hk.ext _ _ (by simp [go_sem, k0, k1, q0, q1, hh1, hh2, ha1, ha2, hgl, hent])
        simp [Region.wanted, Oper.wp, Act.eval, go_sem, d47, c0, c1, c2, c3, k0, k1, q0, q1, hh1, hh2, ha1, ha2, hgl, hent]
        exact hK _ _ (Below.refl _ _) rfl
        | 9, _ =>
        obtain rfl := Option.some.inj hoq
        intro a1 w1 K hk hK
        have d40 : a1.tmps.getD 40 undef = .func (.func 119) #[] #[] := hk.deps ⟨0, .data⟩ (by simp) rfl _ _ rfl rfl
        have d44 : a1.tmps.getD 44 undef = .agg #[.slice Ay py.length cy, .int .u64 (vy : Nat)] := hk.deps ⟨4, .data⟩ (by simp) rfl _ _ rfl rfl
        have d48 : a1.tmps.getD 48 undef = .agg #[.slice Ax px.length cx, .int .u64 (vx : Nat)] := hk.deps ⟨8, .data⟩ (by simp) rfl _ _ rfl rfl
        simp [Region.wanted, Oper.wp, Act.eval, go_sem, d40, d44, d48, k0, k1, q0, q1, hh1, hh2, ha1, ha2, hgl, hent]
        refine (HOR.out _ (below_trans (by repeat (first | exact Below.refl _ _ | (refine Below.drew ?_) | (refine below_drewN' ?_ _) | (refine below_alloc' ?_ _) | (refine Below.setCell ?_ (by first | exact Nat.le_refl _ | (simp; done) | (simp; omega)) _))) hk.ext)).mono ?_
        rintro e w9 ⟨rfl, hb9⟩
        exact hK _ _ hb9 rfl
      · intro vs w3 hl hb3 hv
        match vs, hl with
        | [v0, v1, v2, v3, v4, v5, v6, v7, v8, v9], _ =>
        obtain rfl : v0 = .func (.func 119) #[] #[] := hv 0 (by omega)
        obtain rfl : v1 = .slice (some ⟨g, 0, none⟩) m c := hv 1 (by omega)
        obtain rfl : v2 = .int .i64 (h : Nat) := hv 2 (by omega)
        obtain rfl : v3 = .pointer (some ⟨g, h * 2, none⟩) := hv 3 (by omega)
        obtain rfl : v4 = .agg #[.slice Ay py.length cy, .int .u64 (vy : Nat)] := hv 4 (by omega)
        obtain rfl : v5 = .slice (some ⟨g, 0, none⟩) m c := hv 5 (by omega)
        obtain rfl : v6 = .int .i64 (a : Nat) := hv 6 (by omega)
        obtain rfl : v7 = .pointer (some ⟨g, a * 2, none⟩) := hv 7 (by omega)
        obtain rfl : v8 = .agg #[.slice Ax px.length cx, .int .u64 (vx : Nat)] := hv 8 (by omega)
        obtain rfl : v9 = .int .i64 z := hv 9 (by omega)
        clear hv
        simp only [putAll, List.take_succ_cons, List.take_zero, List.drop_succ_cons, List.drop_zero, Act.put, List.setIfInBounds_toArray, List.set_cons_succ, List.set_cons_zero]
        have HP3 := Lib.hid (HI.out.2.2.2.2.step (show Below wr.heap.size wr w3 from hb3))
        clear hb3 hth k0 k1 q0 q1 hgl
        by_cases hz0 : z < 0
        · have HL := Lib.hid (HLT.out (HZ.out.1 hz0))
          go_wp2_with fail
          go_roundw
          case rel =>
            obtain ⟨n1, n2, n3, n4, n5⟩ := HN.out
            exact ⟨t + 1, r, by rw [HW2.out]; congr 2; omega, by rw [n2], by omega, HI.out.2.1, HL.out, HI.out.2.2.2.1, HP3.out⟩
          case measure =>
            obtain ⟨n1, n2, n3, n4, n5⟩ := HN.out
            rw [intOf_nat, intOf_of' HW2.out, intOf_nat]; omega
        · have HL := Lib.hid (HGE.out (fun h => hz0 (HZ.out.2 h)))
          go_wp2_with fail
          go_roundw
          case rel =>
            obtain ⟨n1, n2, n3, n4, n5⟩ := HN.out
            exact ⟨q, t, by rw [n1], by rw [n3], by omega, by omega, HI.out.2.2.1, HL.out, HP3.out⟩
          case measure =>
            obtain ⟨n1, n2, n3, n4, n5⟩ := HN.out
            rw [intOf_nat, intOf_nat, intOf_nat]; omega
    · obtain rfl : q = r := by omega
      obtain ⟨d1, d2, d3, d4, d5⟩ := HD.out
      obtain ⟨i, hi⟩ : ∃ i, mm + q = i := ⟨_, rfl⟩
      obtain ⟨j, hj⟩ : ∃ j, a + q = j := ⟨_, rfl⟩
      have hij : ¬ (i : Int) < (i : Int) := by omega
      have HW3 := Lib.hid (show wrap64 ((i : Int) - 1) = (j : Int) from by have := wrap_sub (a := i) (i := 1) (p := j) (by omega) (by omega); exact this)
      have HJ := Lib.hid hj
      rw [hi]
      have HF := Lib.hid (show ∀ w', PR W0 w' g n (X ++ (B.take q ++ (x :: (B.drop q ++ Y)))) → MrgR W0 g n X (x :: B) Y (.returned (.tuple #[])) w' from fun w' hp => by
        have h1 : ∀ y ∈ B.take q, ek y < ek x := fun y hy => by
          obtain ⟨i, hi, rfl⟩ := List.mem_iff_getElem.1 hy
          rw [List.length_take] at hi
          rw [List.getElem_take]
          exact hlo i (by omega) (by omega)
        have h2 : ∀ y ∈ B.drop q, ek x ≤ ek y := fun y hy => by
          obtain ⟨i, hi, rfl⟩ := List.mem_iff_getElem.1 hy
          rw [List.length_drop] at hi
          rw [List.getElem_drop]
          exact hhi (q + i) (by omega) (by omega)
        have h3 := HK.out.2.2.2
        rw [← List.take_append_drop q B] at h3
        obtain ⟨s1, s2, s3⟩ := List.pairwise_append.1 h3
        refine ⟨B.take q ++ (x :: B.drop q), rfl, by simpa using hp, by simp; omega, ?_, ?_⟩
        · have e := Stb.swap (X := [x]) (Y := B.take q) (fun u hu v hv => by obtain rfl := List.mem_singleton.1 hu; have := h1 v hv; omega)
          have e2 := e.append (Stb.refl (B.drop q))
          simpa using e2
        · refine List.pairwise_append.2 ⟨s1, List.pairwise_cons.2 ⟨h2, s2⟩, fun u hu v hv => ?_⟩
          rcases List.mem_cons.1 hv with rfl | hv
          · exact Nat.le_of_lt (h1 u hu)
          · exact s3 u hu v hv)
      clear hlo hhi hpr hqr hi hj d1 d2 d3 d4 d5
      go_wp2_with fail
      go_loopw [13] (fun kv wr => ∃ s : Nat, s ≤ q ∧ kv = .int .i64 ((a + s : Nat) : Int) ∧ PR W0 wr g n (X ++ (B.take s ++ (x :: (B.drop s ++ Y))))) (fun kv _ => j - (intOf kv).toNat)
      case atStart => exact ⟨0, Nat.zero_le _, rfl, by simpa using HI.out.2.2.2.2⟩
      case round =>
        obtain ⟨s, hs, rfl, hpr⟩ := hrel
        have HS := Lib.hid (And.intro hs hpr)
        obtain ⟨d1, d2, d3, d4, d5⟩ := HD.out
        by_cases hsq : s < q
        · have hsB : s < B.length := by omega
          obtain ⟨y, hy⟩ : ∃ y, B[s] = y := ⟨_, rfl⟩
          have e1 : X ++ (B.take s ++ (x :: (B.drop s ++ Y))) = (X ++ B.take s) ++ x :: y :: (B.drop (s + 1) ++ Y) := by rw [← List.getElem_cons_drop hsB, hy]; simp
          have e2 : X ++ (B.take (s + 1) ++ (x :: (B.drop (s + 1) ++ Y))) = (X ++ B.take s) ++ y :: x :: (B.drop (s + 1) ++ Y) := by rw [← List.take_append_getElem hsB, hy]; simp
          obtain ⟨p, hp⟩ : ∃ p, a + s = p := ⟨_, rfl⟩
          have hlen : (X ++ B.take s).length = p := by simp; omega
          have hpr2 := hpr
          rw [e1] at hpr2
          have ex : ((X ++ B.take s) ++ x :: y :: (B.drop (s + 1) ++ Y))[p]? = some x := by rw [List.getElem?_append_right (by omega), show p - (X ++ B.take s).length = 0 by omega]; rfl
          have ey : ((X ++ B.take s) ++ x :: y :: (B.drop (s + 1) ++ Y))[p + 1]? = some y := by rw [List.getElem?_append_right (by omega), show p + 1 - (X ++ B.take s).length = 1 by omega]; rfl
          obtain ⟨k0, k1, rx⟩ := hpr2.at2 p _ ex
          obtain ⟨q0, q1, ry⟩ := hpr2.at2 (p + 1) _ ey
          have hpl : p + 1 < ((X ++ B.take s) ++ x :: y :: (B.drop (s + 1) ++ Y)).length := by rw [List.length_append]; simp; omega
          have HSET := Lib.hid (show PR W0 ((((wr.setCell ⟨g, p * 2, none⟩ y.1).setCell ⟨g, p * 2 + 1, none⟩ (.int .u64 (y.2.v : Nat))).setCell ⟨g, (p + 1) * 2, none⟩ x.1).setCell ⟨g, (p + 1) * 2 + 1, none⟩ (.int .u64 (x.2.v : Nat))) g n (X ++ (B.take (s + 1) ++ (x :: (B.drop (s + 1) ++ Y)))) from by
            have h9 := (hpr2.set (j := p) (by omega) y ry).set (j := p + 1) (by rw [List.length_set]; exact hpl) x rx
            have h8 := swap_mid2 (X ++ B.take s) x y (B.drop (s + 1) ++ Y)
            rw [hlen] at h8
            rw [h8, ← e2] at h9
            exact h9)
          have hth := fun r => hpr.thaw r
          have hgl := hpr.lt
          obtain ⟨ux, px, vx⟩ := x
          obtain ⟨uy, py, vy⟩ := y
          simp only at k0 k1 q0 q1 rx ry
          have hp1 : (p : Int) < (j : Int) := by have := HJ.out; omega
          have hp2 : (p : Int) < (m : Int) := by omega
          have hp3 : (0 : Int) ≤ (p : Int) := by omega
          have hp4 : (p : Int) + 1 < (m : Int) := by omega
          have hp5 : (0 : Int) ≤ (p : Int) + 1 := by omega
          have hp6 : p + 1 < m := by omega
          have hp7 : p < m := by omega
          have HPN := Lib.hid (show s + 1 ≤ q ∧ p + 1 = a + (s + 1) ∧ j - (((p + 1 : Nat) : Int)).toNat < j - ((p : Nat) : Int).toNat from by have := HJ.out; omega)
          have HW4 := Lib.hid (show wrap64 ((p : Int) + 1) = ((p + 1 : Nat) : Int) from wrap_succ (by omega))
          obtain ⟨Ax, cx, rfl, _⟩ := RdU.point rx
          obtain ⟨Ay, cy, rfl, _⟩ := RdU.point ry
          rw [hp]
          have hw3 := HW3.out
          have hw4 := HW4.out
          clear hpr hpr2 hy e1 e2 ex ey rx ry hp hlen hpl hs d1 d2 d3 d4 d5 hsq
          go_wp2_with fail
          go_region
          go_wp2_with fail
          refine ⟨⟨s + 1, HPN.out.1, by rw [hw4, HPN.out.2.1], HSET.out.step (by repeat (first | exact Below.refl _ _ | (refine Below.drew ?_) | (refine below_drewN' ?_ _)))⟩, ?_⟩
          rw [intOf_of' hw4, intOf_nat]
          exact HPN.out.2.2
        · obtain rfl : s = q := by omega
          have e : a + s = j := HJ.out
          have hp1 : ¬ (j : Int) < (j : Int) := by omega
          have hw3 := HW3.out
          rw [e]
          clear hpr hs d1 d2 d3 d4 d5 e
          go_wp2_with fail
          go_end0
          exact HF.out _ HS.out.2
end Go.Proofs.YtjokcagggmjgmaaGreat
/-! SrtH -/
namespace Go.Proofs.YtjokcagggmjgmaaGreat
open Go.RowKit
set_option linter.unusedVariables false
set_option linter.unusedSimpArgs false
set_option maxRecDepth 100000

set_option maxHeartbeats 8000000 in
theorem sym_right (W0 w : World) (g n a mm b m c k : Nat) (X A Y : List Pe) (x : Pe) (ha : X.length = a) (hmm : a + A.length = mm) (hb : mm + 1 = b) (hm : b + Y.length = m) (hmx : m ≤ 1000) (hA2 : 2 ≤ A.length) (k1 : 1 ≤ k) (k16 : k ≤ 16) (h : PR W0 w g n (X ++ (A ++ (x :: Y))))
    (hk : ∀ x' ∈ X ++ (A ++ (x :: Y)), x'.2.p.length = k ∧ ∀ q ∈ x'.2.p, q < 2 ^ 64) (hA : Srt A) :
    Calls Tryz.prog 179 #[.slice (some ⟨g, 0, none⟩) m c, .int .i64 (a : Nat), .int .i64 (mm : Nat), .int .i64 (b : Nat), .func (.func 119) #[] #[]] w fun e w' => MrgR W0 g n X (A ++ [x]) Y e w' := by
  have hent := enters_lit' Tryz.func119 (by kernel_rfl) (by kernel_rfl)
  have HP0 := Lib.hid h
  have HD := Lib.hid (And.intro ha (And.intro hmm (And.intro hb (And.intro hm hmx))))
  have HK := Lib.hid (And.intro hk (And.intro k1 (And.intro k16 hA)))
  obtain ⟨la, hla⟩ : ∃ la, A.length = la := ⟨_, rfl⟩
  have hl1 : ¬ (la : Int) = 1 := by omega
  have hl2 : ((la : Int) == 1) = false := by simpa using hl1
  have HW1 := Lib.hid (show wrap64 ((mm : Int) - (a : Int)) = (la : Int) from wrap_sub (by omega) (by omega))
  have HW2 := Lib.hid (show wrap64 ((b : Int) - (mm : Int)) = ((1 : Nat) : Int) from wrap_sub (by omega) (by omega))
  have hw1 := HW1.out
  have hw2 : wrap64 ((b : Int) - (mm : Int)) = 1 := HW2.out
  clear ha hmm hb hm hmx k1 k16 h hk hA hA2 hla
  go_enter Tryz.func179, Tryz.ntmps179
  go_wp2_with fail
  clear hw1 hw2
  go_loopw [14, 15, 16] (fun iv jv _ wr => ∃ q r : Nat, iv = .int .i64 ((a + q : Nat) : Int) ∧ jv = .int .i64 ((a + r : Nat) : Int) ∧ q ≤ r ∧ r ≤ A.length ∧ (∀ t (h : t < A.length), t < q → ek A[t] ≤ ek x) ∧ (∀ t (h : t < A.length), r ≤ t → ek x < ek A[t]) ∧ PR W0 wr g n (X ++ (A ++ (x :: Y)))) (fun iv jv _ _ => (intOf jv).toNat - (intOf iv).toNat)
  case atStart => exact ⟨0, A.length, rfl, by rw [HD.out.2.1], Nat.zero_le _, Nat.le_refl _, (fun t _ h => by omega), (fun t h h' => by omega), HP0.out⟩
  case round =>
    obtain ⟨q, r, rfl, rfl, hqr, hrl, hlo, hhi, hpr⟩ := hrel
    have HI := Lib.hid (And.intro hqr (And.intro hrl (And.intro hlo (And.intro hhi hpr))))
    by_cases hlt : q < r
    · obtain ⟨d1, d2, d3, d4, d5⟩ := HD.out
      obtain ⟨i, hi⟩ : ∃ i, a + q = i := ⟨_, rfl⟩
      obtain ⟨j, hj⟩ : ∃ j, a + r = j := ⟨_, rfl⟩
      obtain ⟨h, hh⟩ : ∃ h, (i + j) / 2 = h := ⟨_, rfl⟩
      obtain ⟨t, ht⟩ : ∃ t, h = a + t := ⟨h - a, by omega⟩
      have htB : t < A.length := by omega
      have hqt : q ≤ t ∧ t < r := by omega
      have ey : (X ++ (A ++ (x :: Y)))[h]? = some A[t] := by
        rw [List.getElem?_append_right (by omega), show h - X.length = t by omega, List.getElem?_append_left htB, List.getElem?_eq_getElem htB]
      have ex : (X ++ (A ++ (x :: Y)))[mm]? = some x := by
        rw [List.getElem?_append_right (by omega), List.getElem?_append_right (by omega), show mm - X.length - A.length = 0 by omega]; rfl
      obtain ⟨k0, k1, ry⟩ := hpr.at2 h _ ey
      obtain ⟨q0, q1, rx⟩ := hpr.at2 mm _ ex
      have HOR := Lib.hid (ord_row hpr (List.mem_of_getElem? ex) (List.mem_of_getElem? ey) HK.out.2.1 HK.out.2.2.1 HK.out.1)
      have HLT := Lib.hid (show ¬ ek x < ek A[t] → ∀ s (h : s < A.length), s < t + 1 → ek A[s] ≤ ek x from fun h0 s hs h' => by
        by_cases e : s = t
        · subst e; omega
        · have := List.pairwise_iff_getElem.1 HK.out.2.2.2 s t hs htB (by omega); omega)
      have HGE := Lib.hid (show ek x < ek A[t] → ∀ s (h : s < A.length), t ≤ s → ek x < ek A[s] from fun h0 s hs h' => by
        by_cases e : s = t
        · subst e; omega
        · have := List.pairwise_iff_getElem.1 HK.out.2.2.2 t s htB hs (by omega); omega)
      have hth := fun r => hpr.thaw r
      have hgl := hpr.lt
      generalize A[t] = y at *
      obtain ⟨ux, px, vx⟩ := x
      obtain ⟨uy, py, vy⟩ := y
      simp only at k0 k1 q0 q1 rx ry HOR
      obtain ⟨z, hz⟩ : ∃ z, Zb.cmp px py = z := ⟨_, rfl⟩
      rw [hz] at HOR
      have HZ := Lib.hid (show z < 0 ↔ pkey px < pkey py from hz ▸ cmp_neg px py)
      have hij : (i : Int) < (j : Int) := by omega
      have hh1 : (h : Int) < (m : Int) := by omega
      have hh2 : (0 : Int) ≤ (h : Int) := by omega
      have ha1 : (mm : Int) < (m : Int) := by omega
      have ha2 : (0 : Int) ≤ (mm : Int) := by omega
      have HN := Lib.hid (And.intro hi (And.intro hj (And.intro ht (And.intro hqt htB))))
      have HW2 := Lib.hid (show wrap64 ((h : Int) + 1) = ((h + 1 : Nat) : Int) from wrap_succ (by omega))
      have HMW := Lib.hid (mid_eq hh (by omega))
      rw [hi, hj]
      obtain ⟨Ax, cx, rfl, _⟩ := RdU.point rx
      obtain ⟨Ay, cy, rfl, _⟩ := RdU.point ry
      clear hlo hhi hpr hqr hrl hz ey ex rx ry hi hj hh ht htB hqt hlt d1 d2 d3 d4 d5
      go_wp2_with fail
      rw [HMW.out]
      refine wp_region_vals 10 [fun z9 _ => z9 = .func (.func 119) #[] #[],
        fun z9 _ => z9 = .slice (some ⟨g, 0, none⟩) m c,
        fun z9 _ => z9 = .int .i64 (mm : Nat),
        fun z9 _ => z9 = .pointer (some ⟨g, mm * 2, none⟩),
        fun z9 _ => z9 = .agg #[.slice Ax px.length cx, .int .u64 (vx : Nat)],
        fun z9 _ => z9 = .slice (some ⟨g, 0, none⟩) m c,
        fun z9 _ => z9 = .int .i64 (h : Nat),
        fun z9 _ => z9 = .pointer (some ⟨g, h * 2, none⟩),
        fun z9 _ => z9 = .agg #[.slice Ay py.length cy, .int .u64 (vy : Nat)],
        fun z9 _ => z9 = .int .i64 z]
        (by kernel_rfl) (by kernel_rfl) (by kernel_rfl) (by kernel_rfl) ?_ ?_ ?_
      · intro V hV v w1 w2 h hb
        simp only [List.mem_cons, List.not_mem_nil, or_false] at hV
        rcases hV with rfl | rfl | rfl | rfl | rfl | rfl | rfl | rfl | rfl | rfl
        all_goals first | exact h | (exact h)
      · intro iq oq hiq hoq
        match iq, hiq with
        | 0, _ =>
        obtain rfl := Option.some.inj hoq
        intro a1 w1 K hk hK
        have e4 : a1.tmps.getD 4 undef = .func (.func 119) #[] #[] := hk.same 4 (by simp)
        simp [Region.wanted, Oper.wp, Act.eval, go_sem, e4, k0, k1, q0, q1, hh1, hh2, ha1, ha2, hgl, hent]
        exact hK _ _ (Below.refl _ _) rfl
        | 1, _ =>
        obtain rfl := Option.some.inj hoq
        intro a1 w1 K hk hK
        have e0 : a1.tmps.getD 0 undef = .slice (some ⟨g, 0, none⟩) m c := hk.same 0 (by simp)
        simp [Region.wanted, Oper.wp, Act.eval, go_sem, e0, k0, k1, q0, q1, hh1, hh2, ha1, ha2, hgl, hent]
        exact hK _ _ (Below.refl _ _) rfl
        | 2, _ =>
        obtain rfl := Option.some.inj hoq
        intro a1 w1 K hk hK
        have e2 : a1.tmps.getD 2 undef = .int .i64 (mm : Nat) := hk.same 2 (by simp)
        simp [Region.wanted, Oper.wp, Act.eval, go_sem, e2, k0, k1, q0, q1, hh1, hh2, ha1, ha2, hgl, hent]
        exact hK _ _ (Below.refl _ _) rfl
        | 3, _ =>
        obtain rfl := Option.some.inj hoq
        intro a1 w1 K hk hK
        have d93 : a1.tmps.getD 93 undef = .slice (some ⟨g, 0, none⟩) m c := hk.deps ⟨1, .data⟩ (by simp) rfl _ _ rfl rfl
        have d94 : a1.tmps.getD 94 undef = .int .i64 (mm : Nat) := hk.deps ⟨2, .data⟩ (by simp) rfl _ _ rfl rfl
        simp [Region.wanted, Oper.wp, Act.eval, go_sem, d93, d94, k0, k1, q0, q1, hh1, hh2, ha1, ha2, hgl, hent]
        exact hK _ _ (Below.refl _ _) rfl
        | 4, _ =>
        obtain rfl := Option.some.inj hoq
        intro a1 w1 K hk hK
        have d95 : a1.tmps.getD 95 undef = .pointer (some ⟨g, mm * 2, none⟩) := hk.deps ⟨3, .data⟩ (by simp) rfl _ _ rfl rfl
        have c0 : w1.cell? ⟨g, mm * 2, none⟩ = some (.slice Ax px.length cx) := Below.keeps hk.ext _ _ (by simp [go_sem, k0, k1, q0, q1, hh1, hh2, ha1, ha2, hgl, hent])
        have c1 : w1.cell? ⟨g, mm * 2 + 1, none⟩ = some (.int .u64 (vx : Nat)) := Below.keeps hk.ext _ _ (by simp [go_sem, k0, k1, q0, q1, hh1, hh2, ha1, ha2, hgl, hent])
        have c2 : w1.cell? ⟨g, h * 2, none⟩ = some (.slice Ay py.length cy) := Below.keeps hk.ext _ _ (by simp [go_sem, k0, k1, q0, q1, hh1, hh2, ha1, ha2, hgl, hent])
        have c3 : w1.cell? ⟨g, h * 2 + 1, none⟩ = some (.int .u64 (vy : Nat)) := Below.keeps hk.ext _ _ (by simp [go_sem, k0, k1, q0, q1, hh1, hh2, ha1, ha2, hgl, hent])
        simp [Region.wanted, Oper.wp, Act.eval, go_sem, d95, c0, c1, c2, c3, k0, k1, q0, q1, hh1, hh2, ha1, ha2, hgl, hent]
        exact hK _ _ (Below.refl _ _) rfl
        | 5, _ =>
        obtain rfl := Option.some.inj hoq
        intro a1 w1 K hk hK
        have e0 : a1.tmps.getD 0 undef = .slice (some ⟨g, 0, none⟩) m c := hk.same 0 (by simp)
        simp [Region.wanted, Oper.wp, Act.eval, go_sem, e0, k0, k1, q0, q1, hh1, hh2, ha1, ha2, hgl, hent]
        exact hK _ _ (Below.refl _ _) rfl
        | 6, _ =>
        obtain rfl := Option.some.inj hoq
        intro a1 w1 K hk hK
        have e16 : a1.tmps.getD 16 undef = .int .i64 (h : Nat) := hk.same 16 (by simp)
        simp [Region.wanted, Oper.wp, Act.eval, go_sem, e16, k0, k1, q0, q1, hh1, hh2, ha1, ha2, hgl, hent]
        exact hK _ _ (Below.refl _ _) rfl
        | 7, _ =>
        obtain rfl := Option.some.inj hoq
        intro a1 w1 K hk hK
        have d97 : a1.tmps.getD 97 undef = .slice (some ⟨g, 0, none⟩) m c := hk.deps ⟨5, .data⟩ (by simp) rfl _ _ rfl rfl
        have d98 : a1.tmps.getD 98 undef = .int .i64 (h : Nat) := hk.deps ⟨6, .data⟩ (by simp) rfl _ _ rfl rfl
        simp [Region.wanted, Oper.wp, Act.eval, go_sem, d97, d98, k0, k1, q0, q1, hh1, hh2, ha1, ha2, hgl, hent]
        exact hK _ _ (Below.refl _ _) rfl
        | 8, _ =>
        obtain rfl := Option.some.inj hoq
        intro a1 w1 K hk hK
        have d99 : a1.tmps.getD 99 undef = .pointer (some ⟨g, h * 2, none⟩) := hk.deps ⟨7, .data⟩ (by simp) rfl _ _ rfl rfl
        have c0 : w1.cell? ⟨g, mm * 2, none⟩ = some (.slice Ax px.length cx) := Below.keeps hk.ext _ _ (by simp [go_sem, k0, k1, q0, q1, hh1, hh2, ha1, ha2, hgl, hent])
        have c1 : w1.cell? ⟨g, mm * 2 + 1, none⟩ = some (.int .u64 (vx : Nat)) := Below.keeps hk.ext _ _ (by simp [go_sem, k0, k1, q0, q1, hh1, hh2, ha1, ha2, hgl, hent])
        have c2 : w1.cell? ⟨g, h * 2, none⟩ = some (.slice Ay py.length cy) := Below.keeps hk.ext _ _ (by simp [go_sem, k0, k1, q0, q1, hh1, hh2, ha1, ha2, hgl, hent])
        have c3 : w1.cell? ⟨g, h * 2 + 1, none⟩ = some (.int .u64 (vy : Nat)) := Below.keeps hk.ext _ _ (by simp [go_sem, k0, k1, q0, q1, hh1, hh2, ha1, ha2, hgl, hent])
        simp [Region.wanted, Oper.wp, Act.eval, go_sem, d99, c0, c1, c2, c3, k0, k1, q0, q1, hh1, hh2, ha1, ha2, hgl, hent]
        exact hK _ _ (Below.refl _ _) rfl
        | 9, _ =>
        obtain rfl := Option.some.inj hoq
        intro a1 w1 K hk hK
        have d92 : a1.tmps.getD 92 undef = .func (.func 119) #[] #[] := hk.deps ⟨0, .data⟩ (by simp) rfl _ _ rfl rfl
        have d96 : a1.tmps.getD 96 undef = .agg #[.slice Ax px.length cx, .int .u64 (vx : Nat)] := hk.deps ⟨4, .data⟩ (by simp) rfl _ _ rfl rfl
        have d100 : a1.tmps.getD 100 undef = .agg #[.slice Ay py.length cy, .int .u64 (vy : Nat)] := hk.deps ⟨8, .data⟩ (by simp) rfl _ _ rfl rfl
        simp [Region.wanted, Oper.wp, Act.eval, go_sem, d92, d96, d100, k0, k1, q0, q1, hh1, hh2, ha1, ha2, hgl, hent]
        refine (HOR.out _ (below_trans (by repeat (first | exact Below.refl _ _ | (refine Below.drew ?_) | (refine below_drewN' ?_ _) | (refine below_alloc' ?_ _) | (refine Below.setCell ?_ (by first | exact Nat.le_refl _ | (simp; done) | (simp; omega)) _))) hk.ext)).mono ?_
        rintro e w9 ⟨rfl, hb9⟩
        exact hK _ _ hb9 rfl
      · intro vs w3 hl hb3 hv
        match vs, hl with
        | [v0, v1, v2, v3, v4, v5, v6, v7, v8, v9], _ =>
        obtain rfl : v0 = .func (.func 119) #[] #[] := hv 0 (by omega)
        obtain rfl : v1 = .slice (some ⟨g, 0, none⟩) m c := hv 1 (by omega)
        obtain rfl : v2 = .int .i64 (mm : Nat) := hv 2 (by omega)
        obtain rfl : v3 = .pointer (some ⟨g, mm * 2, none⟩) := hv 3 (by omega)
        obtain rfl : v4 = .agg #[.slice Ax px.length cx, .int .u64 (vx : Nat)] := hv 4 (by omega)
        obtain rfl : v5 = .slice (some ⟨g, 0, none⟩) m c := hv 5 (by omega)
        obtain rfl : v6 = .int .i64 (h : Nat) := hv 6 (by omega)
        obtain rfl : v7 = .pointer (some ⟨g, h * 2, none⟩) := hv 7 (by omega)
        obtain rfl : v8 = .agg #[.slice Ay py.length cy, .int .u64 (vy : Nat)] := hv 8 (by omega)
        obtain rfl : v9 = .int .i64 z := hv 9 (by omega)
        clear hv
        simp only [putAll, List.take_succ_cons, List.take_zero, List.drop_succ_cons, List.drop_zero, Act.put, List.setIfInBounds_toArray, List.set_cons_succ, List.set_cons_zero]
        have HP3 := Lib.hid (HI.out.2.2.2.2.step (show Below wr.heap.size wr w3 from hb3))
        clear hb3 hth k0 k1 q0 q1 hgl
        by_cases hz0 : z < 0
        · have HL := Lib.hid (HGE.out (HZ.out.1 hz0))
          go_wp2_with fail
          go_roundw
          case rel =>
            obtain ⟨n1, n2, n3, n4, n5⟩ := HN.out
            exact ⟨q, t, by rw [n1], by rw [n3], by omega, by omega, HI.out.2.2.1, HL.out, HP3.out⟩
          case measure =>
            obtain ⟨n1, n2, n3, n4, n5⟩ := HN.out
            rw [intOf_nat, intOf_nat, intOf_nat]; omega
        · have HL := Lib.hid (HLT.out (fun h => hz0 (HZ.out.2 h)))
          go_wp2_with fail
          go_roundw
          case rel =>
            obtain ⟨n1, n2, n3, n4, n5⟩ := HN.out
            exact ⟨t + 1, r, by rw [HW2.out]; congr 2; omega, by rw [n2], by omega, HI.out.2.1, HL.out, HI.out.2.2.2.1, HP3.out⟩
          case measure =>
            obtain ⟨n1, n2, n3, n4, n5⟩ := HN.out
            rw [intOf_nat, intOf_of' HW2.out, intOf_nat]; omega
    · obtain rfl : q = r := by omega
      obtain ⟨d1, d2, d3, d4, d5⟩ := HD.out
      obtain ⟨i, hi⟩ : ∃ i, a + q = i := ⟨_, rfl⟩
      have hij : ¬ (i : Int) < (i : Int) := by omega
      have HJ := Lib.hid (And.intro hi hrl)
      rw [hi]
      have HF := Lib.hid (show ∀ w', PR W0 w' g n (X ++ (A.take q ++ (x :: (A.drop q ++ Y)))) → MrgR W0 g n X (A ++ [x]) Y (.returned (.tuple #[])) w' from fun w' hp => by
        have h1 : ∀ y ∈ A.take q, ek y ≤ ek x := fun y hy => by
          obtain ⟨i, hi, rfl⟩ := List.mem_iff_getElem.1 hy
          rw [List.length_take] at hi
          rw [List.getElem_take]
          exact hlo i (by omega) (by omega)
        have h2 : ∀ y ∈ A.drop q, ek x < ek y := fun y hy => by
          obtain ⟨i, hi, rfl⟩ := List.mem_iff_getElem.1 hy
          rw [List.length_drop] at hi
          rw [List.getElem_drop]
          exact hhi (q + i) (by omega) (by omega)
        have h3 := HK.out.2.2.2
        rw [← List.take_append_drop q A] at h3
        obtain ⟨s1, s2, s3⟩ := List.pairwise_append.1 h3
        refine ⟨A.take q ++ (x :: A.drop q), rfl, by simpa using hp, by simp; omega, ?_, ?_⟩
        · have e := Stb.swap (X := A.drop q) (Y := [x]) (fun u hu v hv => by obtain rfl := List.mem_singleton.1 hv; have := h2 u hu; omega)
          have e2 := (Stb.refl (A.take q)).append e
          rw [← List.append_assoc, List.take_append_drop] at e2
          simpa using e2
        · refine List.pairwise_append.2 ⟨s1, List.pairwise_cons.2 ⟨fun y hy => Nat.le_of_lt (h2 y hy), s2⟩, fun u hu v hv => ?_⟩
          rcases List.mem_cons.1 hv with rfl | hv
          · exact h1 u hu
          · exact s3 u hu v hv)
      clear hlo hhi hpr hqr hi d1 d2 d3 d4 d5
      go_wp2_with fail
      go_loopw [17] (fun kv wr => ∃ s : Nat, q ≤ s ∧ s ≤ A.length ∧ kv = .int .i64 ((a + s : Nat) : Int) ∧ PR W0 wr g n (X ++ (A.take s ++ (x :: (A.drop s ++ Y))))) (fun kv _ => (intOf kv).toNat)
      case atStart => exact ⟨A.length, HJ.out.2, Nat.le_refl _, by rw [HD.out.2.1], by simpa using HI.out.2.2.2.2⟩
      case round =>
        obtain ⟨s, hs, hsl, rfl, hpr⟩ := hrel
        have HS := Lib.hid (And.intro hs hpr)
        obtain ⟨d1, d2, d3, d4, d5⟩ := HD.out
        have hj1 := HJ.out.1
        by_cases hsq : q < s
        · obtain ⟨s', hs'⟩ : ∃ s', s = s' + 1 := ⟨s - 1, by omega⟩
          subst hs'
          have hsB : s' < A.length := by omega
          obtain ⟨y, hy⟩ : ∃ y, A[s'] = y := ⟨_, rfl⟩
          have e1 : X ++ (A.take (s' + 1) ++ (x :: (A.drop (s' + 1) ++ Y))) = (X ++ A.take s') ++ y :: x :: (A.drop (s' + 1) ++ Y) := by rw [← List.take_append_getElem hsB, hy]; simp
          have e2 : X ++ (A.take s' ++ (x :: (A.drop s' ++ Y))) = (X ++ A.take s') ++ x :: y :: (A.drop (s' + 1) ++ Y) := by rw [← List.getElem_cons_drop hsB, hy]; simp
          obtain ⟨p, hp⟩ : ∃ p, a + s' = p := ⟨_, rfl⟩
          obtain ⟨e, he⟩ : ∃ e, a + (s' + 1) = e := ⟨_, rfl⟩
          have hlen : (X ++ A.take s').length = p := by simp; omega
          have hpr2 := hpr
          rw [e1] at hpr2
          have ey : ((X ++ A.take s') ++ y :: x :: (A.drop (s' + 1) ++ Y))[p]? = some y := by rw [List.getElem?_append_right (by omega), show p - (X ++ A.take s').length = 0 by omega]; rfl
          have ex : ((X ++ A.take s') ++ y :: x :: (A.drop (s' + 1) ++ Y))[e]? = some x := by rw [List.getElem?_append_right (by omega), show e - (X ++ A.take s').length = 1 by omega]; rfl
          obtain ⟨k0, k1, ry⟩ := hpr2.at2 p _ ey
          obtain ⟨q0, q1, rx⟩ := hpr2.at2 e _ ex
          have hpl : p + 1 < ((X ++ A.take s') ++ y :: x :: (A.drop (s' + 1) ++ Y)).length := by rw [List.length_append]; simp; omega
          have hep : e = p + 1 := by omega
          have HSET := Lib.hid (show PR W0 ((((wr.setCell ⟨g, e * 2, none⟩ y.1).setCell ⟨g, e * 2 + 1, none⟩ (.int .u64 (y.2.v : Nat))).setCell ⟨g, p * 2, none⟩ x.1).setCell ⟨g, p * 2 + 1, none⟩ (.int .u64 (x.2.v : Nat))) g n (X ++ (A.take s' ++ (x :: (A.drop s' ++ Y)))) from by
            have h9 := (hpr2.set (j := e) (by omega) y ry).set (j := p) (by rw [List.length_set]; omega) x rx
            have h8 := swap_mid (X ++ A.take s') y x (A.drop (s' + 1) ++ Y)
            rw [hlen, ← hep] at h8
            rw [h8, ← e2] at h9
            exact h9)
          have hth := fun r => hpr.thaw r
          have hgl := hpr.lt
          obtain ⟨ux, px, vx⟩ := x
          obtain ⟨uy, py, vy⟩ := y
          simp only at k0 k1 q0 q1 rx ry
          have hp1 : (e : Int) > (i : Int) := by omega
          have hp2 : (p : Int) < (m : Int) := by omega
          have hp3 : (0 : Int) ≤ (p : Int) := by omega
          have hp4 : (e : Int) < (m : Int) := by omega
          have hp5 : (0 : Int) ≤ (e : Int) := by omega
          have hp8 : ¬ e = p := by omega
          have HPN := Lib.hid (show q ≤ s' ∧ s' ≤ A.length ∧ p = a + s' ∧ ((p : Nat) : Int).toNat < ((e : Nat) : Int).toNat from by omega)
          have HW4 := Lib.hid (show wrap64 ((e : Int) - 1) = (p : Int) from by have := wrap_sub (a := e) (i := 1) (p := p) (by omega) (by omega); exact this)
          obtain ⟨Ax, cx, rfl, _⟩ := RdU.point rx
          obtain ⟨Ay, cy, rfl, _⟩ := RdU.point ry
          rw [he]
          have hw4 := HW4.out
          clear hpr hpr2 hy e1 e2 ex ey rx ry hp he hep hlen hpl hs d1 d2 d3 d4 d5 hsq hj1 hsl hsB
          go_wp2_with fail
          go_region
          go_wp2_with fail
          refine ⟨⟨s', HPN.out.1, HPN.out.2.1, by rw [hw4, HPN.out.2.2.1], HSET.out.step (by repeat (first | exact Below.refl _ _ | (refine Below.drew ?_) | (refine below_drewN' ?_ _)))⟩, ?_⟩
          rw [intOf_of' hw4, intOf_nat]
          exact HPN.out.2.2.2
        · obtain rfl : s = q := by omega
          have hp1 : ¬ (i : Int) > (i : Int) := by omega
          rw [hj1]
          clear hpr hs d1 d2 d3 d4 d5 hj1
          go_wp2_with fail
          go_end0
          exact HF.out _ HS.out.2
end Go.Proofs.YtjokcagggmjgmaaGreat
/-! SrtI -/
namespace Go.Proofs.YtjokcagggmjgmaaGreat
open Go.RowKit
set_option linter.unusedVariables false
set_option linter.unusedSimpArgs false
set_option maxRecDepth 100000

/-- the key at a place -/
def kAt (l : List Pe) (i : Nat) : Nat := ((l[i]?).map ek).getD 0
theorem kAt_eq {l : List Pe} {i : Nat} (h : i < l.length) : kAt l i = ek l[i] := by unfold kAt; rw [List.getElem?_eq_getElem h]; rfl
theorem Srt.kAt {l : List Pe} (h : Srt l) {i j : Nat} (hij : i ≤ j) (hj : j < l.length) : Go.Proofs.YtjokcagggmjgmaaGreat.kAt l i ≤ Go.Proofs.YtjokcagggmjgmaaGreat.kAt l j := by
  rw [kAt_eq (by omega), kAt_eq hj]
  by_cases e : i = j
  · subst e; exact Nat.le_refl _
  · exact List.pairwise_iff_getElem.1 h i j (by omega) hj (by omega)
/-- where the runs are cut: the places -/
structure CutB (a mm b mid lo hi : Nat) : Prop where
  md : mid = (a + b) / 2
  am : a < mm
  mb : mm < b
  la : a ≤ lo
  lh : lo ≤ hi
  hm : hi ≤ mm
  hd : hi ≤ mid
  lb : mid + mm ≤ lo + b
  e1 : lo = a ∨ lo + b = mid + mm
  e2 : hi = mid ∨ hi = mm
theorem CutB.of {a mm b mid : Nat} (md : mid = (a + b) / 2) (am : a < mm) (mb : mm < b) : CutB a mm b mid (if mm > mid then mid + mm - b else a) (if mm > mid then mid else mm) := by
  by_cases h : mm > mid
  · rw [if_pos h, if_pos h]
    exact ⟨md, am, mb, by omega, by omega, by omega, by omega, by omega, by omega, by omega⟩
  · rw [if_neg h, if_neg h]
    exact ⟨md, am, mb, by omega, by omega, by omega, by omega, by omega, by omega, by omega⟩
/-- what is known of the search -/
structure CutI (A B : List Pe) (a mm b mid lo hi st r : Nat) : Prop where
  l1 : lo ≤ st
  l2 : st ≤ r
  l3 : r ≤ hi
  low : ∀ c, lo ≤ c → c < st → kAt A (c - a) ≤ kAt B (mid + mm - 1 - c - mm)
  high : ∀ c, r ≤ c → c < hi → kAt B (mid + mm - 1 - c - mm) < kAt A (c - a)
theorem CutI.up {A B : List Pe} {a mm b mid lo hi st r c : Nat} (h : CutI A B a mm b mid lo hi st r) (hb : CutB a mm b mid lo hi) (hA : Srt A) (hB : Srt B) (la : a + A.length = mm) (lb : mm + B.length = b) (h1 : st ≤ c) (h2 : c < r)
    (hc : ¬ kAt B (mid + mm - 1 - c - mm) < kAt A (c - a)) : CutI A B a mm b mid lo hi (c + 1) r := by
  obtain ⟨x1, x2, x3, x4, x5, x6, x7, x8, _, _⟩ := hb
  obtain ⟨y1, y2, y3, y4, y5⟩ := h
  refine ⟨by omega, by omega, y3, fun d d1 d2 => ?_, y5⟩
  have z1 := hA.kAt (i := d - a) (j := c - a) (by omega) (by omega)
  have z2 := hB.kAt (i := mid + mm - 1 - c - mm) (j := mid + mm - 1 - d - mm) (by omega) (by omega)
  omega
theorem CutI.down {A B : List Pe} {a mm b mid lo hi st r c : Nat} (h : CutI A B a mm b mid lo hi st r) (hb : CutB a mm b mid lo hi) (hA : Srt A) (hB : Srt B) (la : a + A.length = mm) (lb : mm + B.length = b) (h1 : st ≤ c) (h2 : c < r)
    (hc : kAt B (mid + mm - 1 - c - mm) < kAt A (c - a)) : CutI A B a mm b mid lo hi st c := by
  obtain ⟨x1, x2, x3, x4, x5, x6, x7, x8, _, _⟩ := hb
  obtain ⟨y1, y2, y3, y4, y5⟩ := h
  refine ⟨y1, by omega, by omega, y4, fun d d1 d2 => ?_⟩
  have z1 := hA.kAt (i := c - a) (j := d - a) (by omega) (by omega)
  have z2 := hB.kAt (i := mid + mm - 1 - d - mm) (j := mid + mm - 1 - c - mm) (by omega) (by omega)
  omega
/-- the runs, cut -/
structure CutR (A B A1 A2 B1 B2 : List Pe) (a mm b mid st : Nat) : Prop where
  ea : A = A1 ++ A2
  eb : B = B1 ++ B2
  l1 : a + A1.length = st
  l2 : st + A2.length = mm
  l3 : st + B1.length = mid
  l4 : mid + A2.length + B2.length = b
  lt : ∀ x ∈ B1, ∀ y ∈ A2, ek x < ek y
  le : ∀ x ∈ A1, ∀ y ∈ B2, ek x ≤ ek y
theorem mem_kAt {l : List Pe} {x : Pe} (h : x ∈ l) : ∃ i, i < l.length ∧ ek x = kAt l i := by
  obtain ⟨i, hi, rfl⟩ := List.mem_iff_getElem.1 h
  exact ⟨i, hi, (kAt_eq hi).symm⟩
theorem kAt_left {l m : List Pe} {i : Nat} (h : i < l.length) : kAt (l ++ m) i = kAt l i := by unfold kAt; rw [List.getElem?_append_left h]
theorem kAt_right {l m : List Pe} {i : Nat} : kAt (l ++ m) (l.length + i) = kAt m i := by unfold kAt; rw [List.getElem?_append_right (by omega), Nat.add_sub_cancel_left]
theorem CutI.cut {A B : List Pe} {a mm b mid lo hi st : Nat} (h : CutI A B a mm b mid lo hi st st) (hb : CutB a mm b mid lo hi) (hA : Srt A) (hB : Srt B) (la : a + A.length = mm) (lb : mm + B.length = b) :
    CutR A B (A.take (st - a)) (A.drop (st - a)) (B.take (mid - st)) (B.drop (mid - st)) a mm b mid st := by
  obtain ⟨x1, x2, x3, x4, x5, x6, x7, x8, x9, x10⟩ := hb
  obtain ⟨y1, y2, y3, y4, y5⟩ := h
  have q1 : (A.take (st - a)).length = st - a := by rw [List.length_take]; omega
  have q2 : (B.take (mid - st)).length = mid - st := by rw [List.length_take]; omega
  have eA : A = A.take (st - a) ++ A.drop (st - a) := (List.take_append_drop _ _).symm
  have eB : B = B.take (mid - st) ++ B.drop (mid - st) := (List.take_append_drop _ _).symm
  refine ⟨eA, eB, by omega, by rw [List.length_drop]; omega, by omega, by rw [List.length_drop, List.length_drop]; omega, fun x hx y hy => ?_, fun x hx y hy => ?_⟩
  · obtain ⟨i, hi, ei⟩ := mem_kAt hx
    obtain ⟨j, hj, ej⟩ := mem_kAt hy
    have e1 := kAt_left (m := B.drop (mid - st)) hi
    have e2 := kAt_right (l := A.take (st - a)) (m := A.drop (st - a)) (i := j)
    rw [← eB] at e1
    rw [← eA, q1] at e2
    rw [ei, ej, ← e1, ← e2]
    rw [q2] at hi
    rw [List.length_drop] at hj
    have z0 := y5 st (Nat.le_refl _) (by omega)
    have z1 := hA.kAt (i := st - a) (j := st - a + j) (by omega) (by omega)
    have z2 := hB.kAt (i := i) (j := mid + mm - 1 - st - mm) (by omega) (by omega)
    omega
  · obtain ⟨i, hi, ei⟩ := mem_kAt hx
    obtain ⟨j, hj, ej⟩ := mem_kAt hy
    have e1 := kAt_left (m := A.drop (st - a)) hi
    have e2 := kAt_right (l := B.take (mid - st)) (m := B.drop (mid - st)) (i := j)
    rw [← eA] at e1
    rw [← eB, q2] at e2
    rw [ei, ej, ← e1, ← e2]
    rw [q1] at hi
    rw [List.length_drop] at hj
    have z0 := y4 (st - 1) (by omega) (by omega)
    have z1 := hA.kAt (i := i) (j := st - 1 - a) (by omega) (by omega)
    have z2 := hB.kAt (i := mid + mm - 1 - (st - 1) - mm) (j := mid - st + j) (by omega) (by omega)
    omega
end Go.Proofs.YtjokcagggmjgmaaGreat
/-! SrtJ -/
namespace Go.Proofs.YtjokcagggmjgmaaGreat
open Go.RowKit
set_option linter.unusedVariables false
set_option linter.unusedSimpArgs false
set_option maxRecDepth 100000

/-- one half is done -/
structure Half (W0 w : World) (g n : Nat) (X L M Y : List Pe) : Prop where
  pr : PR W0 w g n (X ++ (M ++ Y))
  len : M.length = L.length
  stb : Stb L M
  srt : Srt M
theorem wrapi_sub {a i p : Nat} (h : p + i = a) (hb : a ≤ 100000) : IntKind.i64.wrap ((a : Int) - (i : Int)) = (p : Int) := by rw [IntKind.wrap_i64]; omega
set_option maxHeartbeats 16000000 in
theorem sym_gen (W0 w : World) (g n a mm b m c k : Nat) (X A B Y : List Pe) (ha : X.length = a) (hmm : a + A.length = mm) (hb : mm + B.length = b) (hm : b + Y.length = m) (hmx : m ≤ 1000) (hA2 : 2 ≤ A.length) (hB2 : 2 ≤ B.length) (k1 : 1 ≤ k) (k16 : k ≤ 16)
    (h : PR W0 w g n (X ++ (A ++ (B ++ Y)))) (hk : ∀ x' ∈ X ++ (A ++ (B ++ Y)), x'.2.p.length = k ∧ ∀ q ∈ x'.2.p, q < 2 ^ 64) (hA : Srt A) (hB : Srt B)
    (ih : ∀ (w' : World) (a' mm' b' : Nat) (X' A' B' Y' : List Pe), A'.length + B'.length < A.length + B.length → X'.length = a' → a' + A'.length = mm' → mm' + B'.length = b' → b' + Y'.length = m → A' ≠ [] → B' ≠ [] → PR W0 w' g n (X' ++ (A' ++ (B' ++ Y'))) →
      (∀ x' ∈ X' ++ (A' ++ (B' ++ Y')), x'.2.p.length = k ∧ ∀ q ∈ x'.2.p, q < 2 ^ 64) → Srt A' → Srt B' → Calls Tryz.prog 179 #[.slice (some ⟨g, 0, none⟩) m c, .int .i64 (a' : Nat), .int .i64 (mm' : Nat), .int .i64 (b' : Nat), .func (.func 119) #[] #[]] w' fun e w'' => MrgR W0 g n X' (A' ++ B') Y' e w'') :
    Calls Tryz.prog 179 #[.slice (some ⟨g, 0, none⟩) m c, .int .i64 (a : Nat), .int .i64 (mm : Nat), .int .i64 (b : Nat), .func (.func 119) #[] #[]] w fun e w' => MrgR W0 g n X (A ++ B) Y e w' := by
  have hent := enters_lit' Tryz.func119 (by kernel_rfl) (by kernel_rfl)
  have HP00 := Lib.hid h
  have HD := Lib.hid (And.intro ha (And.intro hmm (And.intro hb (And.intro hm hmx))))
  have HK := Lib.hid (And.intro hk (And.intro k1 (And.intro k16 (And.intro hA hB))))
  have HIH := Lib.hid ih
  obtain ⟨la, hla⟩ : ∃ la, A.length = la := ⟨_, rfl⟩
  obtain ⟨lb, hlb⟩ : ∃ lb, B.length = lb := ⟨_, rfl⟩
  have hl1 : ¬ (la : Int) = 1 := by omega
  have hl2 : ((la : Int) == 1) = false := by simpa using hl1
  have hl3 : ¬ (lb : Int) = 1 := by omega
  have hl4 : ((lb : Int) == 1) = false := by simpa using hl3
  obtain ⟨mid, hmid⟩ : ∃ mid, mid = (a + b) / 2 := ⟨_, rfl⟩
  obtain ⟨N, hN⟩ : ∃ N, N = mid + mm := ⟨_, rfl⟩
  have hcb := CutB.of (mm := mm) hmid (by omega) (by omega)
  obtain ⟨lo, hlo⟩ : ∃ lo, (if mm > mid then mid + mm - b else a) = lo := ⟨_, rfl⟩
  obtain ⟨hi, hhi⟩ : ∃ hi, (if mm > mid then mid else mm) = hi := ⟨_, rfl⟩
  rw [hlo, hhi] at hcb
  have HCB := Lib.hid hcb
  have hmain : (mm > mid ∧ lo = N - b ∧ hi = mid) ∨ (¬ mm > mid ∧ lo = a ∧ hi = mm) := by
    by_cases h9 : mm > mid
    · rw [if_pos h9] at hlo hhi; exact .inl ⟨h9, by omega, by omega⟩
    · rw [if_neg h9] at hlo hhi; exact .inr ⟨h9, by omega, by omega⟩
  have HNE := Lib.hid hN
  obtain ⟨p, hp⟩ : ∃ p, p + 1 = N := ⟨N - 1, by have := hcb.am; omega⟩
  have HPN := Lib.hid hp
  have HW1 := Lib.hid (show wrap64 ((mm : Int) - (a : Int)) = (la : Int) from wrap_sub (by omega) (by omega))
  have HW2 := Lib.hid (show wrap64 ((b : Int) - (mm : Int)) = (lb : Int) from wrap_sub (by omega) (by omega))
  have HMD := Lib.hid (mid_eq hmid.symm (by omega))
  have HNN := Lib.hid (show wrap64 ((mid : Int) + (mm : Int)) = (N : Int) from wrap_add (by omega) (by omega))
  have HP := Lib.hid (show wrap64 ((N : Int) - 1) = (p : Int) from by have := wrap_sub (a := N) (i := 1) (p := p) (by omega) (by omega); exact this)
  have HNB := Lib.hid (show (mm : Int) > (mid : Int) → wrap64 ((N : Int) - (b : Int)) = (lo : Int) from fun h => wrap_sub (by have := hcb.lb; rcases hmain with ⟨h1, h2, h3⟩ | ⟨h1, h2, h3⟩ <;> omega) (by omega))
  have H0 := Lib.hid (show CutI A B a mm b mid lo hi lo hi from ⟨Nat.le_refl _, hcb.lh, Nat.le_refl _, fun c h1 h2 => by omega, fun c h1 h2 => by omega⟩)
  have hbr : ((mm : Int) > (mid : Int) ∧ lo = N - b ∧ hi = mid) ∨ (¬ (mm : Int) > (mid : Int) ∧ lo = a ∧ hi = mm) := by omega
  clear hp ha hmm hb hm hmx k1 k16 h hk hA hB hA2 hB2 hla hlb ih hmid hN hcb hlo hhi hmain
  have hw1 := HW1.out
  have hw2 := HW2.out
  have hw3 := HMD.out
  rcases hbr with ⟨hgt, hl0, hh0⟩ | ⟨hgt, hl0, hh0⟩
  all_goals
    have HLH := Lib.hid (And.intro hl0 hh0)
    clear hl0 hh0
    go_enter Tryz.func179, Tryz.ntmps179
    go_wp2_with fail
    clear hw1 hw2 hw3
    (try rw [HMD.out])
    (try rw [HNN.out])
    (try rw [HP.out])
    (try rw [HNB.out hgt])
    go_loopw [20, 21, 23] (fun sv rv _ wr => ∃ st r : Nat, sv = .int .i64 (st : Nat) ∧ rv = .int .i64 (r : Nat) ∧ CutI A B a mm b mid lo hi st r ∧ PR W0 wr g n (X ++ (A ++ (B ++ Y)))) (fun sv rv _ _ => (intOf rv).toNat - (intOf sv).toNat)
    case atStart => exact ⟨lo, hi, by first | rfl | rw [HLH.out.1], by first | rfl | rw [HLH.out.2], H0.out, HP00.out⟩
    case round =>
      obtain ⟨st, r, rfl, rfl, hI, hpr⟩ := hrel
      have HI := Lib.hid (And.intro hI hpr)
      by_cases hlt : st < r
      · obtain ⟨d1, d2, d3, d4, d5⟩ := HD.out
        have hcb := HCB.out
        have hNm := HNE.out
        have hpN := HPN.out
        obtain ⟨c9, hc9⟩ : ∃ c9, (st + r) / 2 = c9 := ⟨_, rfl⟩
        obtain ⟨i1, i2, i3, _, _⟩ := id hI
        obtain ⟨b1, b2, b3, b4, b5, b6, b7, b8, _, _⟩ := hcb
        obtain ⟨d, hd⟩ : ∃ d, c9 + d = p := ⟨p - c9, by omega⟩
        have hcA : c9 - a < A.length := by omega
        have hdB : d - mm < B.length := by omega
        have ey : (X ++ (A ++ (B ++ Y)))[d]? = some B[d - mm] := by
          rw [List.getElem?_append_right (by omega), List.getElem?_append_right (by omega), List.getElem?_append_left (by omega), show d - X.length - A.length = d - mm by omega, List.getElem?_eq_getElem hdB]
        have ex : (X ++ (A ++ (B ++ Y)))[c9]? = some A[c9 - a] := by
          rw [List.getElem?_append_right (by omega), List.getElem?_append_left (by omega), show c9 - X.length = c9 - a by omega, List.getElem?_eq_getElem hcA]
        obtain ⟨k0, k1, ry⟩ := hpr.at2 d _ ey
        obtain ⟨q0, q1, rx⟩ := hpr.at2 c9 _ ex
        have HOR := Lib.hid (ord_row hpr (List.mem_of_getElem? ey) (List.mem_of_getElem? ex) HK.out.2.1 HK.out.2.2.1 HK.out.1)
        have hdm : mid + mm - 1 - c9 - mm = d - mm := by omega
        have eB : kAt B (mid + mm - 1 - c9 - mm) = ek B[d - mm] := by rw [hdm]; exact kAt_eq hdB
        have eA : kAt A (c9 - a) = ek A[c9 - a] := kAt_eq hcA
        have HUP := Lib.hid (show ¬ ek B[d - mm] < ek A[c9 - a] → CutI A B a mm b mid lo hi (c9 + 1) r from fun h => hI.up HCB.out HK.out.2.2.2.1 HK.out.2.2.2.2 d2 d3 (by omega) (by omega) (by rw [eB, eA]; exact h))
        have HDN := Lib.hid (show ek B[d - mm] < ek A[c9 - a] → CutI A B a mm b mid lo hi st c9 from fun h => hI.down HCB.out HK.out.2.2.2.1 HK.out.2.2.2.2 d2 d3 (by omega) (by omega) (by rw [eB, eA]; exact h))
        have hth := fun r => hpr.thaw r
        have hgl := hpr.lt
        generalize A[c9 - a] = x at *
        generalize B[d - mm] = y at *
        obtain ⟨ux, px, vx⟩ := x
        obtain ⟨uy, py, vy⟩ := y
        simp only at k0 k1 q0 q1 rx ry HOR
        obtain ⟨z, hz⟩ : ∃ z, Zb.cmp py px = z := ⟨_, rfl⟩
        rw [hz] at HOR
        have HZ := Lib.hid (show z < 0 ↔ pkey py < pkey px from hz ▸ cmp_neg py px)
        have hij : (st : Int) < (r : Int) := by omega
        have hh1 : (d : Int) < (m : Int) := by omega
        have hh2 : (0 : Int) ≤ (d : Int) := by omega
        have ha1 : (c9 : Int) < (m : Int) := by omega
        have ha2 : (0 : Int) ≤ (c9 : Int) := by omega
        have HN := Lib.hid (show r - (c9 + 1) < r - st ∧ c9 - st < r - st from by omega)
        have HW2 := Lib.hid (show wrap64 ((c9 : Int) + 1) = ((c9 + 1 : Nat) : Int) from wrap_succ (by omega))
        have HDW := Lib.hid (show wrap64 ((p : Int) - (c9 : Int)) = (d : Int) from wrap_sub (by omega) (by omega))
        have HDW2 := Lib.hid (show IntKind.i64.wrap ((p : Int) - (c9 : Int)) = (d : Int) from wrapi_sub (by omega) (by omega))
        have HMW := Lib.hid (mid_eq hc9 (by omega))
        obtain ⟨Ax, cx, rfl, _⟩ := RdU.point rx
        obtain ⟨Ay, cy, rfl, _⟩ := RdU.point ry
        clear hI hpr hz ey ex rx ry hc9 hd hcA hdB hdm eB eA hlt d1 d2 d3 d4 d5 b1 b2 b3 b4 b5 b6 b7 b8 i1 i2 i3 hNm hpN
        go_wp2_with fail
        rw [HMW.out]
        have hdw := HDW.out
        have hdw2 := HDW2.out
        refine wp_region_vals 12 [fun z9 _ => z9 = .func (.func 119) #[] #[],
          fun z9 _ => z9 = .slice (some ⟨g, 0, none⟩) m c,
          fun z9 _ => z9 = .int .i64 (p : Nat),
          fun z9 _ => z9 = .int .i64 (c9 : Nat),
          fun z9 _ => z9 = .int .i64 (d : Nat),
          fun z9 _ => z9 = .pointer (some ⟨g, d * 2, none⟩),
          fun z9 _ => z9 = .agg #[.slice Ay py.length cy, .int .u64 (vy : Nat)],
          fun z9 _ => z9 = .slice (some ⟨g, 0, none⟩) m c,
          fun z9 _ => z9 = .int .i64 (c9 : Nat),
          fun z9 _ => z9 = .pointer (some ⟨g, c9 * 2, none⟩),
          fun z9 _ => z9 = .agg #[.slice Ax px.length cx, .int .u64 (vx : Nat)],
          fun z9 _ => z9 = .int .i64 z]
          (by kernel_rfl) (by kernel_rfl) (by kernel_rfl) (by kernel_rfl) ?_ ?_ ?_
        · intro V hV v w1 w2 h hb
          simp only [List.mem_cons, List.not_mem_nil, or_false] at hV
          rcases hV with rfl | rfl | rfl | rfl | rfl | rfl | rfl | rfl | rfl | rfl | rfl | rfl
          all_goals first | exact h | (exact h)
        · intro iq oq hiq hoq
          match iq, hiq with
          | 0, _ =>
          obtain rfl := Option.some.inj hoq
          intro a1 w1 K hk hK
          have e4 : a1.tmps.getD 4 undef = .func (.func 119) #[] #[] := hk.same 4 (by simp)
          simp [Region.wanted, Oper.wp, Act.eval, go_sem, e4, k0, k1, q0, q1, hh1, hh2, ha1, ha2, hgl, hent, hdw, hdw2]
          exact hK _ _ (Below.refl _ _) rfl
          | 1, _ =>
          obtain rfl := Option.some.inj hoq
          intro a1 w1 K hk hK
          have e0 : a1.tmps.getD 0 undef = .slice (some ⟨g, 0, none⟩) m c := hk.same 0 (by simp)
          simp [Region.wanted, Oper.wp, Act.eval, go_sem, e0, k0, k1, q0, q1, hh1, hh2, ha1, ha2, hgl, hent, hdw, hdw2]
          exact hK _ _ (Below.refl _ _) rfl
          | 2, _ =>
          obtain rfl := Option.some.inj hoq
          intro a1 w1 K hk hK
          have e22 : a1.tmps.getD 22 undef = .int .i64 (p : Nat) := hk.same 22 (by simp)
          simp [Region.wanted, Oper.wp, Act.eval, go_sem, e22, k0, k1, q0, q1, hh1, hh2, ha1, ha2, hgl, hent, hdw, hdw2]
          exact hK _ _ (Below.refl _ _) rfl
          | 3, _ =>
          obtain rfl := Option.some.inj hoq
          intro a1 w1 K hk hK
          have e23 : a1.tmps.getD 23 undef = .int .i64 (c9 : Nat) := hk.same 23 (by simp)
          simp [Region.wanted, Oper.wp, Act.eval, go_sem, e23, k0, k1, q0, q1, hh1, hh2, ha1, ha2, hgl, hent, hdw, hdw2]
          exact hK _ _ (Below.refl _ _) rfl
          | 4, _ =>
          obtain rfl := Option.some.inj hoq
          intro a1 w1 K hk hK
          have d160 : a1.tmps.getD 160 undef = .int .i64 (p : Nat) := hk.deps ⟨2, .data⟩ (by simp) rfl _ _ rfl rfl
          have d161 : a1.tmps.getD 161 undef = .int .i64 (c9 : Nat) := hk.deps ⟨3, .data⟩ (by simp) rfl _ _ rfl rfl
          simp [Region.wanted, Oper.wp, Act.eval, go_sem, d160, d161, k0, k1, q0, q1, hh1, hh2, ha1, ha2, hgl, hent, hdw, hdw2]
          exact hK _ _ (Below.refl _ _) rfl
          | 5, _ =>
          obtain rfl := Option.some.inj hoq
          intro a1 w1 K hk hK
          have d159 : a1.tmps.getD 159 undef = .slice (some ⟨g, 0, none⟩) m c := hk.deps ⟨1, .data⟩ (by simp) rfl _ _ rfl rfl
          have d162 : a1.tmps.getD 162 undef = .int .i64 (d : Nat) := hk.deps ⟨4, .data⟩ (by simp) rfl _ _ rfl rfl
          simp [Region.wanted, Oper.wp, Act.eval, go_sem, d159, d162, k0, k1, q0, q1, hh1, hh2, ha1, ha2, hgl, hent, hdw, hdw2]
          exact hK _ _ (Below.refl _ _) rfl
          | 6, _ =>
          obtain rfl := Option.some.inj hoq
          intro a1 w1 K hk hK
          have d163 : a1.tmps.getD 163 undef = .pointer (some ⟨g, d * 2, none⟩) := hk.deps ⟨5, .data⟩ (by simp) rfl _ _ rfl rfl
          have c0 : w1.cell? ⟨g, d * 2, none⟩ = some (.slice Ay py.length cy) := Below.keeps hk.ext _ _ (by simp [go_sem, k0, k1, q0, q1, hh1, hh2, ha1, ha2, hgl, hent, hdw, hdw2])
          have c1 : w1.cell? ⟨g, d * 2 + 1, none⟩ = some (.int .u64 (vy : Nat)) := Below.keeps hk.ext _ _ (by simp [go_sem, k0, k1, q0, q1, hh1, hh2, ha1, ha2, hgl, hent, hdw, hdw2])
          have c2 : w1.cell? ⟨g, c9 * 2, none⟩ = some (.slice Ax px.length cx) := Below.keeps hk.ext _ _ (by simp [go_sem, k0, k1, q0, q1, hh1, hh2, ha1, ha2, hgl, hent, hdw, hdw2])
          have c3 : w1.cell? ⟨g, c9 * 2 + 1, none⟩ = some (.int .u64 (vx : Nat)) := Below.keeps hk.ext _ _ (by simp [go_sem, k0, k1, q0, q1, hh1, hh2, ha1, ha2, hgl, hent, hdw, hdw2])
          simp [Region.wanted, Oper.wp, Act.eval, go_sem, d163, c0, c1, c2, c3, k0, k1, q0, q1, hh1, hh2, ha1, ha2, hgl, hent, hdw, hdw2]
          exact hK _ _ (Below.refl _ _) rfl
          | 7, _ =>
          obtain rfl := Option.some.inj hoq
          intro a1 w1 K hk hK
          have e0 : a1.tmps.getD 0 undef = .slice (some ⟨g, 0, none⟩) m c := hk.same 0 (by simp)
          simp [Region.wanted, Oper.wp, Act.eval, go_sem, e0, k0, k1, q0, q1, hh1, hh2, ha1, ha2, hgl, hent, hdw, hdw2]
          exact hK _ _ (Below.refl _ _) rfl
          | 8, _ =>
          obtain rfl := Option.some.inj hoq
          intro a1 w1 K hk hK
          have e23 : a1.tmps.getD 23 undef = .int .i64 (c9 : Nat) := hk.same 23 (by simp)
          simp [Region.wanted, Oper.wp, Act.eval, go_sem, e23, k0, k1, q0, q1, hh1, hh2, ha1, ha2, hgl, hent, hdw, hdw2]
          exact hK _ _ (Below.refl _ _) rfl
          | 9, _ =>
          obtain rfl := Option.some.inj hoq
          intro a1 w1 K hk hK
          have d165 : a1.tmps.getD 165 undef = .slice (some ⟨g, 0, none⟩) m c := hk.deps ⟨7, .data⟩ (by simp) rfl _ _ rfl rfl
          have d166 : a1.tmps.getD 166 undef = .int .i64 (c9 : Nat) := hk.deps ⟨8, .data⟩ (by simp) rfl _ _ rfl rfl
          simp [Region.wanted, Oper.wp, Act.eval, go_sem, d165, d166, k0, k1, q0, q1, hh1, hh2, ha1, ha2, hgl, hent, hdw, hdw2]
          exact hK _ _ (Below.refl _ _) rfl
          | 10, _ =>
          obtain rfl := Option.some.inj hoq
          intro a1 w1 K hk hK
          have d167 : a1.tmps.getD 167 undef = .pointer (some ⟨g, c9 * 2, none⟩) := hk.deps ⟨9, .data⟩ (by simp) rfl _ _ rfl rfl
          have c0 : w1.cell? ⟨g, d * 2, none⟩ = some (.slice Ay py.length cy) := Below.keeps hk.ext _ _ (by simp [go_sem, k0, k1, q0, q1, hh1, hh2, ha1, ha2, hgl, hent, hdw, hdw2])
          have c1 : w1.cell? ⟨g, d * 2 + 1, none⟩ = some (.int .u64 (vy : Nat)) := Below.keeps hk.ext _ _ (by simp [go_sem, k0, k1, q0, q1, hh1, hh2, ha1, ha2, hgl, hent, hdw, hdw2])
          have c2 : w1.cell? ⟨g, c9 * 2, none⟩ = some (.slice Ax px.length cx) := Below.keeps hk.ext _ _ (by simp [go_sem, k0, k1, q0, q1, hh1, hh2, ha1, ha2, hgl, hent, hdw, hdw2])
          have c3 : w1.cell? ⟨g, c9 * 2 + 1, none⟩ = some (.int .u64 (vx : Nat)) := Below.keeps hk.ext _ _ (by simp [go_sem, k0, k1, q0, q1, hh1, hh2, ha1, ha2, hgl, hent, hdw, hdw2])
          simp [Region.wanted, Oper.wp, Act.eval, go_sem, d167, c0, c1, c2, c3, k0, k1, q0, q1, hh1, hh2, ha1, ha2, hgl, hent, hdw, hdw2]
          exact hK _ _ (Below.refl _ _) rfl
          | 11, _ =>
          obtain rfl := Option.some.inj hoq
          intro a1 w1 K hk hK
          have d158 : a1.tmps.getD 158 undef = .func (.func 119) #[] #[] := hk.deps ⟨0, .data⟩ (by simp) rfl _ _ rfl rfl
          have d164 : a1.tmps.getD 164 undef = .agg #[.slice Ay py.length cy, .int .u64 (vy : Nat)] := hk.deps ⟨6, .data⟩ (by simp) rfl _ _ rfl rfl
          have d168 : a1.tmps.getD 168 undef = .agg #[.slice Ax px.length cx, .int .u64 (vx : Nat)] := hk.deps ⟨10, .data⟩ (by simp) rfl _ _ rfl rfl
          simp [Region.wanted, Oper.wp, Act.eval, go_sem, d158, d164, d168, k0, k1, q0, q1, hh1, hh2, ha1, ha2, hgl, hent, hdw, hdw2]
          refine (HOR.out _ (below_trans (by repeat (first | exact Below.refl _ _ | (refine Below.drew ?_) | (refine below_drewN' ?_ _) | (refine below_alloc' ?_ _) | (refine Below.setCell ?_ (by first | exact Nat.le_refl _ | (simp; done) | (simp; omega)) _))) hk.ext)).mono ?_
          rintro e w9 ⟨rfl, hb9⟩
          exact hK _ _ hb9 rfl
        · intro vs w3 hl hb3 hv
          match vs, hl with
          | [v0, v1, v2, v3, v4, v5, v6, v7, v8, v9, v10, v11], _ =>
          obtain rfl : v0 = .func (.func 119) #[] #[] := hv 0 (by omega)
          obtain rfl : v1 = .slice (some ⟨g, 0, none⟩) m c := hv 1 (by omega)
          obtain rfl : v2 = .int .i64 (p : Nat) := hv 2 (by omega)
          obtain rfl : v3 = .int .i64 (c9 : Nat) := hv 3 (by omega)
          obtain rfl : v4 = .int .i64 (d : Nat) := hv 4 (by omega)
          obtain rfl : v5 = .pointer (some ⟨g, d * 2, none⟩) := hv 5 (by omega)
          obtain rfl : v6 = .agg #[.slice Ay py.length cy, .int .u64 (vy : Nat)] := hv 6 (by omega)
          obtain rfl : v7 = .slice (some ⟨g, 0, none⟩) m c := hv 7 (by omega)
          obtain rfl : v8 = .int .i64 (c9 : Nat) := hv 8 (by omega)
          obtain rfl : v9 = .pointer (some ⟨g, c9 * 2, none⟩) := hv 9 (by omega)
          obtain rfl : v10 = .agg #[.slice Ax px.length cx, .int .u64 (vx : Nat)] := hv 10 (by omega)
          obtain rfl : v11 = .int .i64 z := hv 11 (by omega)
          clear hv
          simp only [putAll, List.take_succ_cons, List.take_zero, List.drop_succ_cons, List.drop_zero, Act.put, List.setIfInBounds_toArray, List.set_cons_succ, List.set_cons_zero]
          have HP3 := Lib.hid (HI.out.2.step (show Below wr.heap.size wr w3 from hb3))
          clear hb3 hth k0 k1 q0 q1 hgl hdw hdw2
          by_cases hz0 : z < 0
          · have HL := Lib.hid (HDN.out (HZ.out.1 hz0))
            go_wp2_with fail
            go_roundw
            case rel => exact ⟨st, c9, rfl, rfl, HL.out, HP3.out⟩
            case measure => rw [intOf_nat, intOf_nat, intOf_nat]; exact HN.out.2
          · have HL := Lib.hid (HUP.out (fun h => hz0 (HZ.out.2 h)))
            go_wp2_with fail
            go_roundw
            case rel => exact ⟨c9 + 1, r, by rw [HW2.out], rfl, HL.out, HP3.out⟩
            case measure => rw [intOf_nat, intOf_of' HW2.out, intOf_nat]; exact HN.out.1
      · have hl2 := hI.l2
        obtain rfl : st = r := by omega
        have hcut := hI.cut HCB.out HK.out.2.2.2.1 HK.out.2.2.2.2 HD.out.2.1 HD.out.2.2.1
        obtain ⟨A1, hA1⟩ : ∃ l, A.take (st - a) = l := ⟨_, rfl⟩
        obtain ⟨A2, hA2⟩ : ∃ l, A.drop (st - a) = l := ⟨_, rfl⟩
        obtain ⟨B1, hB1⟩ : ∃ l, B.take (mid - st) = l := ⟨_, rfl⟩
        obtain ⟨B2, hB2⟩ : ∃ l, B.drop (mid - st) = l := ⟨_, rfl⟩
        rw [hA1, hA2, hB1, hB2] at hcut
        clear hA1 hA2 hB1 hB2
        have HCUT := Lib.hid hcut
        obtain ⟨cea, ceb, cl1, cl2, cl3, cl4, clt, cle⟩ := hcut
        obtain ⟨d1, d2, d3, d4, d5⟩ := HD.out
        have hNm := HNE.out
        have hcb := HCB.out
        obtain ⟨en, hst⟩ : ∃ en, st + en = N := ⟨N - st, by have := hcb.hd; have := hI.l3; omega⟩
        have HEN := Lib.hid (show wrap64 ((N : Int) - (st : Int)) = (en : Int) from wrap_sub (by omega) (by omega))
        have sA := HK.out.2.2.2.1
        have sB := HK.out.2.2.2.2
        rw [cea] at sA
        rw [ceb] at sB
        obtain ⟨sA1, sA2, sA12⟩ := List.pairwise_append.1 sA
        obtain ⟨sB1, sB2, sB12⟩ := List.pairwise_append.1 sB
        have hcbl : a < mm ∧ mm < b ∧ mid = (a + b) / 2 := ⟨hcb.am, hcb.mb, hcb.md⟩
        obtain ⟨q1, q2, q3⟩ := hcbl
        have hAl := congrArg List.length cea
        have hBl := congrArg List.length ceb
        rw [List.length_append] at hAl hBl
        have HQ0 := Lib.hid (show PR W0 wr g n (X ++ (A1 ++ (A2 ++ (B1 ++ (B2 ++ Y))))) from by have := hpr; rw [cea, ceb] at this; simpa using this)
        have hk1 : ∀ x' ∈ X ++ (A1 ++ (B1 ++ (A2 ++ (B2 ++ Y)))), x'.2.p.length = k ∧ ∀ q ∈ x'.2.p, q < 2 ^ 64 := fun x' hx => HK.out.1 x' (by rw [cea, ceb]; simp only [List.mem_append] at hx ⊢; rcases hx with h | h | h | h | h | h <;> simp [h])
        have HROT := Lib.hid (show ¬ A2.length = 0 → ¬ B1.length = 0 → ∀ w', PR W0 w' g n (X ++ (A1 ++ (A2 ++ (B1 ++ (B2 ++ Y))))) → Calls Tryz.prog 184 #[.slice (some ⟨g, 0, none⟩) m c, .int .i64 (st : Nat), .int .i64 (mm : Nat), .int .i64 (en : Nat), .func (.func 119) #[] #[]] w' fun e w'' => RotR W0 g n (X ++ (A1 ++ (B1 ++ (A2 ++ (B2 ++ Y))))) e w'' from fun z2 z3 w' hp => by
          have := rot_any W0 w' g n st mm en m c (X ++ A1) A2 B1 (B2 ++ Y) (by simp; omega) (by omega) (by omega) (by simp; omega) d5 (fun h => z2 (by rw [h]; rfl)) (fun h => z3 (by rw [h]; rfl)) (by simpa using hp)
          simpa using this)
        have HNR := Lib.hid (show (A2.length = 0 ∨ B1.length = 0) → ∀ w', PR W0 w' g n (X ++ (A1 ++ (A2 ++ (B1 ++ (B2 ++ Y))))) → PR W0 w' g n (X ++ (A1 ++ (B1 ++ (A2 ++ (B2 ++ Y))))) from fun h w' hp => by
          rcases h with h | h
          · rw [List.length_eq_zero_iff] at h; subst h; simpa using hp
          · rw [List.length_eq_zero_iff] at h; subst h; simpa using hp)
        have HL := Lib.hid (show ¬ A1.length = 0 → ¬ B1.length = 0 → ∀ w', PR W0 w' g n (X ++ (A1 ++ (B1 ++ (A2 ++ (B2 ++ Y))))) → Calls Tryz.prog 179 #[.slice (some ⟨g, 0, none⟩) m c, .int .i64 (a : Nat), .int .i64 (st : Nat), .int .i64 (mid : Nat), .func (.func 119) #[] #[]] w' fun e w'' => MrgR W0 g n X (A1 ++ B1) (A2 ++ (B2 ++ Y)) e w'' from fun z1 z3 w' hp =>
          HIH.out w' a st mid X A1 B1 (A2 ++ (B2 ++ Y)) (by omega) d1 cl1 cl3 (by simp; omega) (fun h => z1 (by rw [h]; rfl)) (fun h => z3 (by rw [h]; rfl)) hp hk1 sA1 sB1)
        have HNL := Lib.hid (show (A1.length = 0 ∨ B1.length = 0) → ∀ w', PR W0 w' g n (X ++ (A1 ++ (B1 ++ (A2 ++ (B2 ++ Y))))) → Half W0 w' g n X (A1 ++ B1) (A1 ++ B1) (A2 ++ (B2 ++ Y)) from fun h w' hp => ⟨by simpa using hp, rfl, Stb.refl _, by
          rcases h with h | h
          · rw [List.length_eq_zero_iff] at h; subst h; rw [List.nil_append]; exact sB1
          · rw [List.length_eq_zero_iff] at h; subst h; rw [List.append_nil]; exact sA1⟩)
        have HR := Lib.hid (show ¬ A2.length = 0 → ¬ B2.length = 0 → ∀ (w' : World) (M1 : List Pe), Half W0 w' g n X (A1 ++ B1) M1 (A2 ++ (B2 ++ Y)) → Calls Tryz.prog 179 #[.slice (some ⟨g, 0, none⟩) m c, .int .i64 (mid : Nat), .int .i64 (en : Nat), .int .i64 (b : Nat), .func (.func 119) #[] #[]] w' fun e w'' => MrgR W0 g n (X ++ M1) (A2 ++ B2) Y e w'' from fun z2 z4 w' M1 ⟨hp, hl, hs, ho⟩ => by
          rw [List.length_append] at hl
          exact HIH.out w' mid en b (X ++ M1) A2 B2 Y (by omega) (by simp; omega) (by omega) (by omega) d4 (fun h => z2 (by rw [h]; rfl)) (fun h => z4 (by rw [h]; rfl)) (by simpa using hp) (fun x' hx => hk1 x' (by
            have hm := hs.mem (x := x')
            simp only [List.mem_append] at hx hm ⊢
            rcases hx with (h | h) | h | h | h
            · exact .inl h
            · rcases hm.2 h with h | h
              · exact .inr (.inl h)
              · exact .inr (.inr (.inl h))
            · exact .inr (.inr (.inr (.inl h)))
            · exact .inr (.inr (.inr (.inr (.inl h))))
            · exact .inr (.inr (.inr (.inr (.inr h)))))) sA2 sB2)
        have HNR2 := Lib.hid (show (A2.length = 0 ∨ B2.length = 0) → ∀ (w' : World) (M1 : List Pe), Half W0 w' g n X (A1 ++ B1) M1 (A2 ++ (B2 ++ Y)) → Half W0 w' g n (X ++ M1) (A2 ++ B2) (A2 ++ B2) Y from fun h w' M1 ⟨hp, _, _, _⟩ => ⟨by simpa using hp, rfl, Stb.refl _, by
          rcases h with h | h
          · rw [List.length_eq_zero_iff] at h; subst h; rw [List.nil_append]; exact sB2
          · rw [List.length_eq_zero_iff] at h; subst h; rw [List.append_nil]; exact sA2⟩)
        have HFIN := Lib.hid (show ∀ (w' : World) (M1 M2 : List Pe), (∃ w0, Half W0 w0 g n X (A1 ++ B1) M1 (A2 ++ (B2 ++ Y))) → Half W0 w' g n (X ++ M1) (A2 ++ B2) M2 Y → MrgR W0 g n X (A ++ B) Y (.returned (.tuple #[])) w' from fun w' M1 M2 ⟨w0, _, l1, s1, o1⟩ ⟨hp, l2, s2, o2⟩ => by
          refine ⟨M1 ++ M2, rfl, by simpa using hp, by rw [cea, ceb]; simp only [List.length_append] at l1 l2 ⊢; omega, ?_, ?_⟩
          · rw [cea, ceb]
            have e1 : Stb (A2 ++ B1) (B1 ++ A2) := Stb.swap fun u hu v hv => by have := clt v hv u hu; omega
            have e2 := ((Stb.refl A1).append (e1.append (Stb.refl B2))).trans (by have := s1.append s2; simpa using this)
            simpa using e2
          · refine List.pairwise_append.2 ⟨o1, o2, fun u hu v hv => ?_⟩
            have hu := s1.mem.2 hu
            have hv := s2.mem.2 hv
            rcases List.mem_append.1 hu with hu | hu <;> rcases List.mem_append.1 hv with hv | hv
            · exact sA12 u hu v hv
            · exact cle u hu v hv
            · exact Nat.le_of_lt (clt u hu v hv)
            · exact sB12 u hu v hv)
        have hstr : ¬ (st : Int) < (st : Int) := by omega
        clear hI hpr cea ceb clt cle hcb sA sB sA1 sA2 sA12 sB1 sB2 sB12 hk1
        by_cases z2 : A2.length = 0
        · by_cases z3 : B1.length = 0
          · first
              | (exfalso; omega)
              | skip
                have HC1 := Lib.hid (HNR.out (by omega))
                have HC2 := Lib.hid (HNL.out (by omega))
                have HC3 := Lib.hid (HNR2.out (by omega))
                have g1 : ¬ ((st : Int) < (mm : Int)) := by omega
                have g3 : ((a : Int) < (st : Int)) := by omega
                have g4 : ¬ ((st : Int) < (mid : Int)) := by omega
                have g5 : ¬ ((mid : Int) < (en : Int)) := by omega
                clear z2 z3 q1 q2 q3 hAl hBl hl2 hlt cl1 cl2 cl3 cl4 hst hNm d1 d2 d3 d4 d5
                have hen := HEN.out
                go_wp2_with fail
                clear hen
                have HP1 := Lib.hid (HC1.out _ HQ0.out)
                have HP2 := Lib.hid (HC2.out _ HP1.out)
                have HP3 := Lib.hid (HC3.out _ _ HP2.out)
                go_end0
                exact HFIN.out _ _ _ ⟨_, HP2.out⟩ HP3.out
          · first
              | (exfalso; omega)
              | skip
                have HC1 := Lib.hid (HNR.out (by omega))
                have HC2 := Lib.hid (HL.out (by omega) (by omega))
                have HC3 := Lib.hid (HNR2.out (by omega))
                have g1 : ¬ ((st : Int) < (mm : Int)) := by omega
                have g3 : ((a : Int) < (st : Int)) := by omega
                have g4 : ((st : Int) < (mid : Int)) := by omega
                have g5 : ¬ ((mid : Int) < (en : Int)) := by omega
                clear z2 z3 q1 q2 q3 hAl hBl hl2 hlt cl1 cl2 cl3 cl4 hst hNm d1 d2 d3 d4 d5
                have hen := HEN.out
                go_wp2_with fail
                clear hen
                have HP1 := Lib.hid (HC1.out _ HQ0.out)
                refine (HC2.out _ HP1.out).mono ?_
                rintro e w3 ⟨M1, rfl, hp, hl, hs, ho⟩
                have HP2 := Lib.hid (show Half W0 w3 g n X (A1 ++ B1) M1 (A2 ++ (B2 ++ Y)) from ⟨hp, hl, hs, ho⟩)
                clear hp hl hs ho
                have hen := HEN.out
                go_wp2_with fail
                clear hen
                have HP3 := Lib.hid (HC3.out _ _ HP2.out)
                go_end0
                exact HFIN.out _ _ _ ⟨_, HP2.out⟩ HP3.out
        · by_cases z3 : B1.length = 0
          · first
              | (exfalso; omega)
              | skip
                have HC1 := Lib.hid (HNR.out (by omega))
                have HC2 := Lib.hid (HNL.out (by omega))
                have HC3 := Lib.hid (HR.out (by omega) (by omega))
                have g1 : ((st : Int) < (mm : Int)) := by omega
                have g2 : ¬ ((mm : Int) < (en : Int)) := by omega
                have g3 : ((a : Int) < (st : Int)) := by omega
                have g4 : ¬ ((st : Int) < (mid : Int)) := by omega
                have g5 : ((mid : Int) < (en : Int)) := by omega
                have g6 : ((en : Int) < (b : Int)) := by omega
                clear z2 z3 q1 q2 q3 hAl hBl hl2 hlt cl1 cl2 cl3 cl4 hst hNm d1 d2 d3 d4 d5
                have hen := HEN.out
                go_wp2_with fail
                clear hen
                have HP1 := Lib.hid (HC1.out _ HQ0.out)
                have HP2 := Lib.hid (HC2.out _ HP1.out)
                (try rw [HEN.out])
                refine (HC3.out _ _ HP2.out).mono ?_
                rintro e w4 ⟨M2, rfl, hp, hl, hs, ho⟩
                have HP3 := Lib.hid (show Half W0 w4 g n _ (A2 ++ B2) M2 Y from ⟨hp, hl, hs, ho⟩)
                clear hp hl hs ho
                go_wp2_with fail
                go_end0
                exact HFIN.out _ _ _ ⟨_, HP2.out⟩ HP3.out
          · by_cases z1 : A1.length = 0
            · by_cases z4 : B2.length = 0
              · have HC1 := Lib.hid (HROT.out (by omega) (by omega))
                have HC2 := Lib.hid (HNL.out (by omega))
                have HC3 := Lib.hid (HNR2.out (by omega))
                have g1 : ((st : Int) < (mm : Int)) := by omega
                have g2 : ((mm : Int) < (en : Int)) := by omega
                have g3 : ¬ ((a : Int) < (st : Int)) := by omega
                have g5 : ((mid : Int) < (en : Int)) := by omega
                have g6 : ¬ ((en : Int) < (b : Int)) := by omega
                clear z2 z3 z1 z4 q1 q2 q3 hAl hBl hl2 hlt cl1 cl2 cl3 cl4 hst hNm d1 d2 d3 d4 d5
                have hen := HEN.out
                go_wp2_with fail
                clear hen
                (try rw [HEN.out])
                refine (HC1.out _ HQ0.out).mono ?_
                rintro e w2 ⟨rfl, hp⟩
                have HP1 := Lib.hid hp
                clear hp
                have hen := HEN.out
                go_wp2_with fail
                clear hen
                have HP2 := Lib.hid (HC2.out _ HP1.out)
                have HP3 := Lib.hid (HC3.out _ _ HP2.out)
                go_end0
                exact HFIN.out _ _ _ ⟨_, HP2.out⟩ HP3.out
              · have HC1 := Lib.hid (HROT.out (by omega) (by omega))
                have HC2 := Lib.hid (HNL.out (by omega))
                have HC3 := Lib.hid (HR.out (by omega) (by omega))
                have g1 : ((st : Int) < (mm : Int)) := by omega
                have g2 : ((mm : Int) < (en : Int)) := by omega
                have g3 : ¬ ((a : Int) < (st : Int)) := by omega
                have g5 : ((mid : Int) < (en : Int)) := by omega
                have g6 : ((en : Int) < (b : Int)) := by omega
                clear z2 z3 z1 z4 q1 q2 q3 hAl hBl hl2 hlt cl1 cl2 cl3 cl4 hst hNm d1 d2 d3 d4 d5
                have hen := HEN.out
                go_wp2_with fail
                clear hen
                (try rw [HEN.out])
                refine (HC1.out _ HQ0.out).mono ?_
                rintro e w2 ⟨rfl, hp⟩
                have HP1 := Lib.hid hp
                clear hp
                have hen := HEN.out
                go_wp2_with fail
                clear hen
                have HP2 := Lib.hid (HC2.out _ HP1.out)
                (try rw [HEN.out])
                refine (HC3.out _ _ HP2.out).mono ?_
                rintro e w4 ⟨M2, rfl, hp, hl, hs, ho⟩
                have HP3 := Lib.hid (show Half W0 w4 g n _ (A2 ++ B2) M2 Y from ⟨hp, hl, hs, ho⟩)
                clear hp hl hs ho
                go_wp2_with fail
                go_end0
                exact HFIN.out _ _ _ ⟨_, HP2.out⟩ HP3.out
            · by_cases z4 : B2.length = 0
              · have HC1 := Lib.hid (HROT.out (by omega) (by omega))
                have HC2 := Lib.hid (HL.out (by omega) (by omega))
                have HC3 := Lib.hid (HNR2.out (by omega))
                have g1 : ((st : Int) < (mm : Int)) := by omega
                have g2 : ((mm : Int) < (en : Int)) := by omega
                have g3 : ((a : Int) < (st : Int)) := by omega
                have g4 : ((st : Int) < (mid : Int)) := by omega
                have g5 : ((mid : Int) < (en : Int)) := by omega
                have g6 : ¬ ((en : Int) < (b : Int)) := by omega
                clear z2 z3 z1 z4 q1 q2 q3 hAl hBl hl2 hlt cl1 cl2 cl3 cl4 hst hNm d1 d2 d3 d4 d5
                have hen := HEN.out
                go_wp2_with fail
                clear hen
                (try rw [HEN.out])
                refine (HC1.out _ HQ0.out).mono ?_
                rintro e w2 ⟨rfl, hp⟩
                have HP1 := Lib.hid hp
                clear hp
                have hen := HEN.out
                go_wp2_with fail
                clear hen
                refine (HC2.out _ HP1.out).mono ?_
                rintro e w3 ⟨M1, rfl, hp, hl, hs, ho⟩
                have HP2 := Lib.hid (show Half W0 w3 g n X (A1 ++ B1) M1 (A2 ++ (B2 ++ Y)) from ⟨hp, hl, hs, ho⟩)
                clear hp hl hs ho
                have hen := HEN.out
                go_wp2_with fail
                clear hen
                have HP3 := Lib.hid (HC3.out _ _ HP2.out)
                go_end0
                exact HFIN.out _ _ _ ⟨_, HP2.out⟩ HP3.out
              · have HC1 := Lib.hid (HROT.out (by omega) (by omega))
                have HC2 := Lib.hid (HL.out (by omega) (by omega))
                have HC3 := Lib.hid (HR.out (by omega) (by omega))
                have g1 : ((st : Int) < (mm : Int)) := by omega
                have g2 : ((mm : Int) < (en : Int)) := by omega
                have g3 : ((a : Int) < (st : Int)) := by omega
                have g4 : ((st : Int) < (mid : Int)) := by omega
                have g5 : ((mid : Int) < (en : Int)) := by omega
                have g6 : ((en : Int) < (b : Int)) := by omega
                clear z2 z3 z1 z4 q1 q2 q3 hAl hBl hl2 hlt cl1 cl2 cl3 cl4 hst hNm d1 d2 d3 d4 d5
                have hen := HEN.out
                go_wp2_with fail
                clear hen
                (try rw [HEN.out])
                refine (HC1.out _ HQ0.out).mono ?_
                rintro e w2 ⟨rfl, hp⟩
                have HP1 := Lib.hid hp
                clear hp
                have hen := HEN.out
                go_wp2_with fail
                clear hen
                refine (HC2.out _ HP1.out).mono ?_
                rintro e w3 ⟨M1, rfl, hp, hl, hs, ho⟩
                have HP2 := Lib.hid (show Half W0 w3 g n X (A1 ++ B1) M1 (A2 ++ (B2 ++ Y)) from ⟨hp, hl, hs, ho⟩)
                clear hp hl hs ho
                have hen := HEN.out
                go_wp2_with fail
                clear hen
                (try rw [HEN.out])
                refine (HC3.out _ _ HP2.out).mono ?_
                rintro e w4 ⟨M2, rfl, hp, hl, hs, ho⟩
                have HP3 := Lib.hid (show Half W0 w4 g n _ (A2 ++ B2) M2 Y from ⟨hp, hl, hs, ho⟩)
                clear hp hl hs ho
                go_wp2_with fail
                go_end0
                exact HFIN.out _ _ _ ⟨_, HP2.out⟩ HP3.out
end Go.Proofs.YtjokcagggmjgmaaGreat
/-! SrtK -/
namespace Go.Proofs.YtjokcagggmjgmaaGreat
open Go.RowKit
set_option linter.unusedVariables false
set_option linter.unusedSimpArgs false
set_option maxRecDepth 100000

theorem sym_any (W0 : World) (g n m c k : Nat) (k1 : 1 ≤ k) (k16 : k ≤ 16) (hmx : m ≤ 1000) : ∀ (N : Nat) (w : World) (a mm b : Nat) (X A B Y : List Pe), A.length + B.length ≤ N → X.length = a → a + A.length = mm → mm + B.length = b → b + Y.length = m → A ≠ [] → B ≠ [] → PR W0 w g n (X ++ (A ++ (B ++ Y))) →
    (∀ x' ∈ X ++ (A ++ (B ++ Y)), x'.2.p.length = k ∧ ∀ q ∈ x'.2.p, q < 2 ^ 64) → Srt A → Srt B →
    Calls Tryz.prog 179 #[.slice (some ⟨g, 0, none⟩) m c, .int .i64 (a : Nat), .int .i64 (mm : Nat), .int .i64 (b : Nat), .func (.func 119) #[] #[]] w fun e w' => MrgR W0 g n X (A ++ B) Y e w' := by
  intro N
  induction N with
  | zero =>
    intro w a mm b X A B Y hN _ _ _ _ hA
    exact absurd (List.length_eq_zero_iff.1 (by omega)) hA
  | succ N ih =>
    intro w a mm b X A B Y hN ha hmm hb hm hA hB h hk sA sB
    cases A with
    | nil => exact absurd rfl hA
    | cons x A' =>
      cases A' with
      | nil => exact sym_left W0 w g n a mm b m c k X B Y x ha (by simpa using hmm) hb hm hmx k1 k16 h hk sB
      | cons x2 A2 =>
        cases B with
        | nil => exact absurd rfl hB
        | cons y B' =>
          cases B' with
          | nil => exact sym_right W0 w g n a mm b m c k X (x :: x2 :: A2) Y y ha hmm (by simpa using hb) hm hmx (by simp) k1 k16 h hk sA
          | cons y2 B2 =>
            exact sym_gen W0 w g n a mm b m c k X (x :: x2 :: A2) (y :: y2 :: B2) Y ha hmm hb hm hmx (by simp) (by simp) k1 k16 h hk sA sB
              fun w' a' mm' b' X' A' B' Y' hlt h1 h2 h3 h4 h5 h6 h7 h8 h9 h10 => ih w' a' mm' b' X' A' B' Y' (by omega) h1 h2 h3 h4 h5 h6 h7 h8 h9 h10
theorem isort_empty (w : World) (a m c : Nat) (A : Option Addr) (hm : a ≤ 1000) :
    Calls Tryz.prog 178 #[.slice A m c, .int .i64 (a : Nat), .int .i64 (a : Nat), .func (.func 119) #[] #[]] w fun e w' => e = .returned (.tuple #[]) ∧ w' = w := by
  have HW := Lib.hid (show wrap64 ((a : Int) + 1) = ((a + 1 : Nat) : Int) from wrap_succ (by omega))
  obtain ⟨b, hb⟩ : ∃ b, a + 1 = b := ⟨_, rfl⟩
  rw [hb] at HW
  have hlt : ¬ (b : Int) < (a : Int) := by omega
  clear hb hm
  go_enter Tryz.func178, Tryz.ntmps178
  go_wp2_with fail
  go_loopw [8, 9] (fun iv _ wr => iv = .int .i64 (b : Nat) ∧ wr = w) (fun _ _ _ => 0)
  case atStart => exact ⟨by rw [HW.out], rfl⟩
  case round =>
    obtain ⟨rfl, hw⟩ := hrel
    subst hw
    go_wp2_with fail
    go_end0
    exact ⟨rfl, rfl⟩
/-- blocks of bs each in order, and a rest -/
structure Blk (W0 w : World) (g n m bs : Nat) (xs : List Pe) (Ms Ls : List (List Pe)) (R : List Pe) : Prop where
  pr : PR W0 w g n (Ms.flatten ++ (Ls.flatten ++ R))
  stb : Stb xs (Ms.flatten ++ (Ls.flatten ++ R))
  len : Ms.flatten.length + (Ls.flatten.length + R.length) = m
  lm : ∀ L ∈ Ms, L.length = 2 * bs ∧ Srt L
  ll : ∀ L ∈ Ls, L.length = bs ∧ Srt L
  rl : R.length < bs
  rs : Srt R
theorem Stb.hk {k : Nat} {xs ys : List Pe} (h : Stb xs ys) (hk : ∀ x ∈ xs, x.2.p.length = k ∧ ∀ q ∈ x.2.p, q < 2 ^ 64) : ∀ x ∈ ys, x.2.p.length = k ∧ ∀ q ∈ x.2.p, q < 2 ^ 64 := fun x hx => hk x (h.mem.2 hx)
theorem flatten_snoc {α : Type} (Ls : List (List α)) (L : List α) : (Ls ++ [L]).flatten = Ls.flatten ++ L := by simp
set_option maxHeartbeats 8000000 in
theorem stc_any (W0 w : World) (g n c k : Nat) (xs : List Pe) (hl : xs.length ≤ 1000) (k1 : 1 ≤ k) (k16 : k ≤ 16) (h : PR W0 w g n xs) (hk : ∀ x ∈ xs, x.2.p.length = k ∧ ∀ q ∈ x.2.p, q < 2 ^ 64) :
    Calls Tryz.prog 163 #[.slice (some ⟨g, 0, none⟩) xs.length c, .int .i64 (xs.length : Nat), .func (.func 119) #[] #[]] w fun e w' => SortR W0 g n xs e w' := by
  have HP0 := Lib.hid h
  obtain ⟨m, hm⟩ : ∃ m, xs.length = m := ⟨_, rfl⟩
  rw [hm]
  have HD := Lib.hid (And.intro hm (show m ≤ 1000 by omega))
  have HK := Lib.hid (And.intro hk (And.intro k1 k16))
  clear hl k1 k16 h hk hm
  go_enter Tryz.func163, Tryz.ntmps163
  go_wp2_with fail
  go_loopw [7, 8] (fun av bv wr => ∃ (Ls : List (List Pe)) (R : List Pe) (a : Nat), av = .int .i64 (a : Nat) ∧ bv = .int .i64 ((a + 20 : Nat) : Int) ∧ Ls.flatten.length = a ∧ a + R.length = m ∧ PR W0 wr g n (Ls.flatten ++ R) ∧ Stb xs (Ls.flatten ++ R) ∧ (∀ L ∈ Ls, L.length = 20 ∧ Srt L)) (fun _ bv _ => m + 20 - (intOf bv).toNat)
  case atStart => exact ⟨[], xs, 0, rfl, rfl, rfl, by have := HD.out.1; simpa using this, HP0.out, Stb.refl _, by simp⟩
  case round =>
    obtain ⟨Ls, R, a, rfl, rfl, hla, har, hpr, hstb, hll⟩ := hrel
    have HI := Lib.hid (And.intro hla (And.intro har (And.intro hpr (And.intro hstb hll))))
    obtain ⟨b, hb⟩ : ∃ b, a + 20 = b := ⟨_, rfl⟩
    rw [hb]
    have hm1 := HD.out.2
    by_cases hle : b ≤ m
    · have hle2 : (b : Int) ≤ (m : Int) := by omega
      have hR20 : (R.take 20).length = 20 := by rw [List.length_take]; omega
      have eR : R = R.take 20 ++ R.drop 20 := (List.take_append_drop _ _).symm
      obtain ⟨S, hS⟩ : ∃ S, R.take 20 = S := ⟨_, rfl⟩
      obtain ⟨Q, hQ⟩ : ∃ Q, R.drop 20 = Q := ⟨_, rfl⟩
      rw [hS] at hR20 eR
      rw [hQ] at eR
      subst eR
      have hne : S ≠ [] := fun h => by rw [h] at hR20; simp at hR20
      have HINS := Lib.hid (isort_any W0 wr g n a b m c k Ls.flatten S Q hla (by omega) (by rw [List.length_append, hla]; exact har) hm1 HK.out.2.1 HK.out.2.2 hpr (hstb.hk HK.out.1) hne)
      have HW := Lib.hid (show wrap64 ((b : Int) + 20) = ((b + 20 : Nat) : Int) from by have := wrap_add (a := b) (i := 20) rfl (by omega); exact this)
      have hbq : b + Q.length = m := by rw [List.length_append] at har; omega
      have HN := Lib.hid (And.intro hb (And.intro hbq (And.intro hR20 hle)))
      clear hla har hpr hstb hll hb hm1 hle hR20 hS hQ hne hbq
      go_wp2_with fail
      refine HINS.out.mono ?_
      rintro e w2 ⟨S', rfl, hp, hl2, hs, hsrt⟩
      have HF := Lib.hid (And.intro hp (And.intro hl2 (And.intro hs hsrt)))
      clear hp hl2 hs hsrt
      go_wp2_with fail
      go_roundw
      case rel =>
        obtain ⟨i1, i2, i3, i4, i5⟩ := HI.out
        obtain ⟨f1, f2, f3, f4⟩ := HF.out
        obtain ⟨n1, n2, n3, n4⟩ := HN.out
        refine ⟨Ls ++ [S'], Q, b, rfl, HW.out ▸ rfl, by rw [flatten_snoc, List.length_append]; omega, n2, by rw [flatten_snoc, List.append_assoc]; exact f1, ?_, fun L hL => ?_⟩
        · rw [flatten_snoc, List.append_assoc]
          exact i4.trans ((Stb.refl _).append (f3.append (Stb.refl _)))
        · rcases List.mem_append.1 hL with hL | hL
          · exact i5 L hL
          · obtain rfl := List.mem_singleton.1 hL
            exact ⟨by omega, f4⟩
      case measure =>
        have hle := HN.out.2.2.2
        rw [intOf_of' HW.out, intOf_nat, Int.toNat_natCast, Int.toNat_natCast]
        omega
    · have hle2 : ¬ (b : Int) ≤ (m : Int) := by omega
      have HINS := Lib.hid (show Calls Tryz.prog 178 #[.slice (some ⟨g, 0, none⟩) m c, .int .i64 (a : Nat), .int .i64 (m : Nat), .func (.func 119) #[] #[]] wr fun e w' => InsR W0 g n Ls.flatten R [] e w' from by
        by_cases hne : R = []
        · subst hne
          have e : m = a := by simpa using har.symm
          subst e
          exact (isort_empty wr m m c _ hm1).mono fun e w' ⟨h1, h2⟩ => ⟨[], h1, by rw [h2]; simpa using hpr, rfl, Stb.refl _, List.Pairwise.nil⟩
        · exact isort_any W0 wr g n a m m c k Ls.flatten R [] hla har (by rw [List.append_nil, List.length_append, hla]; exact har) hm1 HK.out.2.1 HK.out.2.2 (by rw [List.append_nil]; exact hpr) (by rw [List.append_nil]; exact hstb.hk HK.out.1) hne)
      have HN := Lib.hid (And.intro hb hle)
      clear hla har hpr hstb hll hb hm1 hle
      go_wp2_with fail
      refine HINS.out.mono ?_
      rintro e w2 ⟨R', rfl, hp, hl2, hs, hsrt⟩
      have HB0 := Lib.hid (show Blk W0 w2 g n m 20 xs [] Ls R' from by
        obtain ⟨i1, i2, i3, i4, i5⟩ := HI.out
        obtain ⟨n1, n2⟩ := HN.out
        refine ⟨by simpa using hp, ?_, by simp only [List.flatten_nil, List.length_nil]; omega, by simp, i5, by omega, hsrt⟩
        simp only [List.flatten_nil, List.nil_append]
        exact i4.trans ((Stb.refl _).append hs))
      clear hp hl2 hs hsrt
      go_wp2_with fail
      go_loopw [6, 7, 8, 9] (fun sv _ _ _ wr => ∃ (bs : Nat) (Ls : List (List Pe)) (R : List Pe), sv = .int .i64 (bs : Nat) ∧ 20 ≤ bs ∧ bs ≤ 2000 ∧ Blk W0 wr g n m bs xs [] Ls R) (fun sv _ _ _ _ => m - (intOf sv).toNat)
      case atStart => exact ⟨20, Ls, R', rfl, by omega, by omega, HB0.out⟩
      case round =>
        obtain ⟨bs, Ls2, R2, rfl, hb20, hb2, hB⟩ := hrel
        have HBK := Lib.hid hB
        have HBS := Lib.hid (And.intro hb20 hb2)
        have hm1 := HD.out.2
        by_cases hlt : bs < m
        · have hlt2 : (bs : Int) < (m : Int) := by omega
          obtain ⟨b2, hbb⟩ : ∃ b2, 2 * bs = b2 := ⟨_, rfl⟩
          have HW2 := Lib.hid (show wrap64 (2 * (bs : Int)) = (b2 : Int) from by unfold wrap64; omega)
          have HW3 := Lib.hid (show wrap64 ((bs : Int) * 2) = (b2 : Int) from by have := HW2.out; rw [Int.mul_comm]; exact this)
          have HBB := Lib.hid hbb
          have HLT := Lib.hid hlt
          have HB00 := Lib.hid hB
          clear hB hb20 hb2 hm1 hlt hbb
          go_wp2_with fail
          (try rw [HW2.out])
          go_loopw [7, 8] (fun av bv wr => ∃ (Ms Ls : List (List Pe)) (R : List Pe) (a b : Nat), av = .int .i64 (a : Nat) ∧ bv = .int .i64 (b : Nat) ∧ a + b2 = b ∧ Ms.flatten.length = a ∧ Blk W0 wr g n m bs xs Ms Ls R) (fun _ bv _ => m + 4000 - (intOf bv).toNat)
          case atStart => exact ⟨[], Ls2, R2, 0, b2, rfl, rfl, by omega, rfl, HB00.out⟩
          case round =>
            obtain ⟨Ms, Ls3, R3, a3, b3, rfl, rfl, hab, hma, hB3⟩ := hrel
            have HB3 := Lib.hid hB3
            have hm1 := HD.out.2
            have hbb := HBB.out
            obtain ⟨hb20, hb2⟩ := HBS.out
            have hlen := hB3.len
            have hrl := hB3.rl
            by_cases hle3 : b3 ≤ m
            · have hle4 : (b3 : Int) ≤ (m : Int) := by omega
              obtain ⟨L1, L2, Lr, hL⟩ : ∃ L1 L2 Lr, Ls3 = L1 :: L2 :: Lr := by
                cases Ls3 with
                | nil => simp only [List.flatten_nil, List.length_nil] at hlen; omega
                | cons L1 Lr =>
                  have h1 := (hB3.ll L1 (by simp)).1
                  cases Lr with
                  | nil => simp only [List.flatten_cons, List.flatten_nil, List.length_append, List.length_nil] at hlen; omega
                  | cons L2 Lr => exact ⟨L1, L2, Lr, rfl⟩
              subst hL
              obtain ⟨l1, s1⟩ := hB3.ll L1 (by simp)
              obtain ⟨l2, s2⟩ := hB3.ll L2 (by simp)
              obtain ⟨mm, hmm⟩ : ∃ mm, a3 + bs = mm := ⟨_, rfl⟩
              have hln2 : a3 + (bs + (bs + Lr.flatten.length) + R3.length) = m := by simp only [List.flatten_cons, List.length_append] at hlen; omega
              have e1 : Ms.flatten ++ ((L1 :: L2 :: Lr).flatten ++ R3) = Ms.flatten ++ (L1 ++ (L2 ++ (Lr.flatten ++ R3))) := by simp
              have hpr := hB3.pr
              have hst := hB3.stb
              rw [e1] at hpr hst
              have HSYM := Lib.hid (sym_any W0 g n m c k HK.out.2.1 HK.out.2.2 hm1 _ wr a3 mm b3 Ms.flatten L1 L2 (Lr.flatten ++ R3) (Nat.le_refl _) hma (by omega) (by omega) (by rw [List.length_append]; omega) (by intro h; rw [h] at l1; simp at l1; omega) (by intro h; rw [h] at l2; simp at l2; omega) hpr (hst.hk HK.out.1) s1 s2)
              have HNX := Lib.hid (show ∀ w' M, PR W0 w' g n (Ms.flatten ++ (M ++ (Lr.flatten ++ R3))) → M.length = (L1 ++ L2).length → Stb (L1 ++ L2) M → Srt M → (Ms ++ [M]).flatten.length = b3 ∧ Blk W0 w' g n m bs xs (Ms ++ [M]) Lr R3 from fun w' M h1 h2 h3 h4 => by
                rw [List.length_append] at h2
                refine ⟨by rw [flatten_snoc, List.length_append]; omega, by rw [flatten_snoc, List.append_assoc]; exact h1, ?_, by rw [flatten_snoc, List.length_append]; omega, fun L hL => ?_, fun L hL => hB3.ll L (by simp [hL]), hrl, hB3.rs⟩
                · rw [flatten_snoc, List.append_assoc]
                  refine hst.trans ((Stb.refl _).append ?_)
                  have := h3.append (Stb.refl (Lr.flatten ++ R3))
                  simpa using this
                · rcases List.mem_append.1 hL with hL | hL
                  · exact hB3.lm L hL
                  · obtain rfl := List.mem_singleton.1 hL
                    exact ⟨by omega, h4⟩)
              have HWA := Lib.hid (show wrap64 ((a3 : Int) + (bs : Int)) = (mm : Int) from wrap_add (by omega) (by omega))
              have HWB := Lib.hid (show wrap64 ((b3 : Int) + (b2 : Int)) = ((b3 + b2 : Nat) : Int) from wrap_add rfl (by omega))
              have HN3 := Lib.hid (show m + 4000 - (b3 + b2) < m + 4000 - b3 from by omega)
              clear hB3 hab hma hbb hb20 hb2 hlen hrl hle3 l1 s1 l2 s2 hmm hln2 e1 hpr hst hm1
              have hw2 : wrap64 (2 * (bs : Int)) = (b2 : Int) := HW2.out
              have hwa := HWA.out
              go_wp2_with fail
              clear hw2 hwa
              (try rw [HWA.out])
              refine HSYM.out.mono ?_
              rintro e w5 ⟨M, rfl, hp, hl5, hs, ho⟩
              have HNW := Lib.hid (HNX.out _ M hp hl5 hs ho)
              clear hp hl5 hs ho
              have hw2 : wrap64 (2 * (bs : Int)) = (b2 : Int) := HW2.out
              go_wp2_with fail
              clear hw2
              go_roundw
              case rel => exact ⟨Ms ++ [M], Lr, R3, b3, b3 + b2, rfl, by first | rfl | rw [HWB.out] | rw [HW2.out, HWB.out], rfl, HNW.out.1, HNW.out.2⟩
              case measure => rw [intOf_of' HWB.out, intOf_nat, Int.toNat_natCast, Int.toNat_natCast]; exact HN3.out
            · have hle4 : ¬ (b3 : Int) ≤ (m : Int) := by omega
              obtain ⟨mm, hmm⟩ : ∃ mm, a3 + bs = mm := ⟨_, rfl⟩
              have HWA := Lib.hid (show wrap64 ((a3 : Int) + (bs : Int)) = (mm : Int) from wrap_add (by omega) (by omega))
              have hcase : (∃ L, Ls3 = [L]) ∨ Ls3 = [] := by
                cases Ls3 with
                | nil => exact .inr rfl
                | cons L1 Lr =>
                  have h1 := (hB3.ll L1 (by simp)).1
                  cases Lr with
                  | nil => exact .inl ⟨L1, rfl⟩
                  | cons L2 Lr =>
                    have h2 := (hB3.ll L2 (by simp)).1
                    simp only [List.flatten_cons, List.length_append] at hlen
                    omega
              have HOUT := Lib.hid (show ∀ w' R', PR W0 w' g n (Ms.flatten ++ R') → Stb (Ls3.flatten ++ R3) R' → Srt R' → R'.length = (Ls3.flatten ++ R3).length → Blk W0 w' g n m b2 xs [] Ms R' from fun w' R' h1 h2 h3 h4 => by
                rw [List.length_append] at h4
                refine ⟨by simpa using h1, ?_, by simp only [List.flatten_nil, List.length_nil]; omega, by simp, fun L hL => by have := hB3.lm L hL; exact ⟨by omega, this.2⟩, ?_, h3⟩
                · simp only [List.flatten_nil, List.nil_append]
                  exact hB3.stb.trans ((Stb.refl _).append h2)
                · rcases hcase with ⟨L, rfl⟩ | rfl
                  · have := (hB3.ll L (by simp)).1
                    simp only [List.flatten_cons, List.flatten_nil, List.length_append, List.length_nil] at h4
                    omega
                  · simp only [List.flatten_nil, List.length_nil] at h4
                    omega)
              have HNM := Lib.hid (show m - b2 < m - bs ∧ 20 ≤ b2 ∧ b2 ≤ 2000 from by have := HLT.out; omega)
              by_cases hml : mm < m
              · have hml2 : (mm : Int) < (m : Int) := by omega
                obtain ⟨L, rfl⟩ : ∃ L, Ls3 = [L] := by
                  rcases hcase with h | rfl
                  · exact h
                  · simp only [List.flatten_nil, List.length_nil] at hlen; omega
                obtain ⟨l1, s1⟩ := hB3.ll L (by simp)
                have hln2 : a3 + (bs + R3.length) = m := by simp only [List.flatten_cons, List.flatten_nil, List.length_append, List.length_nil] at hlen; omega
                have hpr := hB3.pr
                have hst := hB3.stb
                have e1 : Ms.flatten ++ ([L].flatten ++ R3) = Ms.flatten ++ (L ++ (R3 ++ [])) := by simp
                rw [e1] at hpr hst
                have HSYM := Lib.hid (sym_any W0 g n m c k HK.out.2.1 HK.out.2.2 hm1 _ wr a3 mm m Ms.flatten L R3 [] (Nat.le_refl _) hma (by omega) (by omega) (by simp) (by intro h; rw [h] at l1; simp at l1; omega) (by intro h; rw [h] at hln2; simp at hln2; omega) hpr (hst.hk HK.out.1) s1 hB3.rs)
                clear hB3 hab hma hbb hb20 hb2 hlen hrl hle3 l1 s1 hmm hln2 e1 hpr hst hm1 hcase hml
                have hw2 := HW2.out
                have hwa := HWA.out
                go_wp2_with fail
                clear hw2 hwa
                (try rw [HWA.out])
                refine HSYM.out.mono ?_
                rintro e w5 ⟨M, rfl, hp, hl5, hs, ho⟩
                have HNW := Lib.hid (HOUT.out _ M (by simpa using hp) (by simpa using hs) ho (by simpa using hl5))
                clear hp hl5 hs ho
                have hw3 := HW3.out
                go_wp2_with fail
                clear hw3
                go_roundw
                case rel => exact ⟨b2, Ms, M, by first | rfl | rw [HW3.out], HNM.out.2.1, HNM.out.2.2, HNW.out⟩
                case measure => first | (rw [intOf_nat, intOf_nat, Int.toNat_natCast, Int.toNat_natCast]; exact HNM.out.1) | (rw [intOf_of' HW3.out, intOf_nat, Int.toNat_natCast, Int.toNat_natCast]; exact HNM.out.1)
              · have hml2 : ¬ (mm : Int) < (m : Int) := by omega
                have hso : Srt (Ls3.flatten ++ R3) := by
                  rcases hcase with ⟨L, rfl⟩ | rfl
                  · obtain ⟨l1, s1⟩ := hB3.ll L (by simp)
                    have : R3 = [] := by
                      simp only [List.flatten_cons, List.flatten_nil, List.length_append, List.length_nil] at hlen
                      exact List.length_eq_zero_iff.1 (by omega)
                    rw [this]
                    simpa only [List.flatten_cons, List.flatten_nil, List.append_nil] using s1
                  · simpa only [List.flatten_nil, List.nil_append] using hB3.rs
                have HNW := Lib.hid (HOUT.out wr (Ls3.flatten ++ R3) hB3.pr (Stb.refl _) hso rfl)
                clear hB3 hab hma hbb hb20 hb2 hlen hrl hle3 hmm hm1 hcase hml hso
                have hw2 := HW2.out
                have hwa := HWA.out
                have hw3 := HW3.out
                go_wp2_with fail
                clear hw2 hwa hw3
                go_roundw
                case rel => exact ⟨b2, Ms, Ls3.flatten ++ R3, by first | rfl | rw [HW3.out], HNM.out.2.1, HNM.out.2.2, HNW.out⟩
                case measure => first | (rw [intOf_nat, intOf_nat, Int.toNat_natCast, Int.toNat_natCast]; exact HNM.out.1) | (rw [intOf_of' HW3.out, intOf_nat, Int.toNat_natCast, Int.toNat_natCast]; exact HNM.out.1)
        · have hlt2 : ¬ (bs : Int) < (m : Int) := by omega
          have HFIN := Lib.hid (show SortR W0 g n xs (.returned (.tuple #[])) wr from by
            have hlen := hB.len
            have hrl := hB.rl
            have hpr := hB.pr
            have hst := hB.stb
            simp only [List.flatten_nil, List.length_nil, List.nil_append] at hlen hpr hst
            refine ⟨Ls2.flatten ++ R2, rfl, hpr, by rw [List.length_append]; have := HD.out.1; omega, hst, ?_⟩
            cases Ls2 with
            | nil => simpa only [List.flatten_nil, List.nil_append] using hB.rs
            | cons L1 Lr =>
              obtain ⟨l1, s1⟩ := hB.ll L1 (by simp)
              cases Lr with
              | nil =>
                have : R2 = [] := by
                  simp only [List.flatten_cons, List.flatten_nil, List.length_append, List.length_nil] at hlen
                  exact List.length_eq_zero_iff.1 (by omega)
                rw [this]
                simpa only [List.flatten_cons, List.flatten_nil, List.append_nil] using s1
              | cons L2 Lr =>
                obtain ⟨l2, _⟩ := hB.ll L2 (by simp)
                simp only [List.flatten_cons, List.length_append] at hlen
                omega)
          clear hB hb20 hb2 hm1 hlt
          go_wp2_with fail
          go_end0
          exact HFIN.out
theorem sort_any : SortOk 1000 := by
  intro W0 w g n c k xs hl hne k1 k16 h hk
  have HI := Lib.hid (stc_any W0 w g n c k xs hl k1 k16 h hk)
  clear h hk hl hne k1 k16
  go_enter Tryz.func118, Tryz.ntmps118
  go_wp2_with fail
  refine HI.out.mono ?_
  rintro e w2 ⟨ys, rfl, h1, h2, h3, h4⟩
  have HF := Lib.hid (And.intro h1 (And.intro h2 (And.intro h3 h4)))
  clear h1 h2 h3 h4
  go_wp2_with fail
  go_end0
  exact ⟨ys, rfl, HF.out.1, HF.out.2.1, HF.out.2.2.1, HF.out.2.2.2⟩
end Go.Proofs.YtjokcagggmjgmaaGreat
/-! AwkA -/
namespace Go.Proofs.YtjokcagggmjgmaaGreat
open Go.RowKit
set_option linter.unusedVariables false
set_option linter.unusedSimpArgs false
set_option maxRecDepth 100000

theorem RdE.three {w : World} {b c : Nat} {e0 e1 e2 : En} (h0 : EnAt w b 0 e0) (h1 : EnAt w b 2 e1) (h2 : EnAt w b 4 e2) (hc : 3 ≤ c ∧ c ≤ maxLen) : RdE w (.slice (some ⟨b, 0, none⟩) 3 c) [e0, e1, e2] :=
  ⟨_, c, rfl, ⟨hc.1, hc.2, fun _ => ⟨_, _, rfl⟩⟩, fun _ => ⟨b, 0, rfl, fun j hj => by
    match j, hj with
    | 0, _ => exact h0
    | 1, _ => exact h1
    | 2, _ => exact h2
    | j + 3, hj => simp at hj; omega⟩⟩
theorem RdE.pair' {w : World} {b c : Nat} {e0 e1 : En} (h0 : EnAt w b 0 e0) (h1 : EnAt w b 2 e1) (hc : 2 ≤ c ∧ c ≤ maxLen) : RdE w (.slice (some ⟨b, 0, none⟩) 2 c) [e0, e1] :=
  ⟨_, c, rfl, ⟨hc.1, hc.2, fun _ => ⟨_, _, rfl⟩⟩, fun _ => ⟨b, 0, rfl, fun j hj => by
    match j, hj with
    | 0, _ => exact h0
    | 1, _ => exact h1
    | j + 2, hj => simp at hj; omega⟩⟩
def xe3 : List En := [⟨[4, 0], 1⟩, ⟨[7, 3], 2⟩, ⟨[4, 0], 3⟩]
def xm2 : List En := [⟨[4, 0], 3⟩, ⟨[7, 3], 2⟩]
theorem xputs : putsL [] xe3 = xm2 := by first | rfl | kernel_rfl
theorem xok3 : ∀ e ∈ xe3, e.p.length = 2 ∧ ∀ q ∈ e.p, q < 2 ^ 64 := by decide
theorem xets : EtS 2 xm2 := ⟨xputs ▸ (Et.nil 2).puts xok3, by decide, by decide⟩
set_option maxHeartbeats 2000000 in
theorem awk_any (w : World) : Calls Tryz.prog 25 #[] w fun e w' => e = .returned (.bool true) ∧ Below w.heap.size w w' := by
  have HM := Lib.hid (fun (W : World) (v : Value) (hv : RdE W v xe3) => make_any 19 sort_small W 2 xe3 v hv (by decide) (by decide) (by decide) (by decide) xok3 (by decide))
  rw [xputs] at HM
  have HI := Lib.hid (fun (W : World) (t : Nat) (v : Value) (ht : TrR W t 2 xm2) (hv : RdE W v xm2) => is07_any W t 2 xm2 v ht hv xets)
  go_enter Tryz.func25, Tryz.ntmps25
  go_wp2_with fail
  refine (HM.out _ _ (RdE.three ?_ ?_ ?_ ?_)).mono ?_
  · exact ⟨.slice (some ⟨w.heap.size, 0, none⟩) 2 2, by simp [go_sem], RdU.two (by simp [go_sem]) (by simp [go_sem]), by simp [go_sem]⟩
  · exact ⟨.slice (some ⟨w.heap.size + 1, 0, none⟩) 2 2, by simp [go_sem], RdU.two (by simp [go_sem]) (by simp [go_sem]), by simp [go_sem]⟩
  · exact ⟨.slice (some ⟨w.heap.size + 1 + 1, 0, none⟩) 2 2, by simp [go_sem], RdU.two (by simp [go_sem]) (by simp [go_sem]), by simp [go_sem]⟩
  · simp [maxLen]
  rintro e w1 ⟨t, rfl, ht, hb1⟩
  have HB1 := Lib.hid (show Below w.heap.size w w1 from below_trans (by repeat (first | exact Below.refl _ _ | (refine Below.drew ?_) | (refine below_drewN' ?_ _) | (refine below_alloc' ?_ _) | (refine Below.setCell ?_ (by first | exact Nat.le_refl _ | (simp; done) | (simp; omega)) _))) hb1)
  have HT1 := Lib.hid ht
  clear hb1 ht
  go_wp2_with fail
  refine (HI.out _ _ _ (HT1.out.bel (by repeat (first | exact Below.refl _ _ | (refine Below.drew ?_) | (refine below_drewN' ?_ _) | (refine below_alloc' ?_ _) | (refine Below.setCell ?_ (by first | exact Nat.le_refl _ | (simp; done) | (simp; omega)) _)))) (RdE.pair' ?_ ?_ ?_)).mono ?_
  · exact ⟨.slice (some ⟨w1.heap.size, 0, none⟩) 2 2, by simp [go_sem], RdU.two (by simp [go_sem]) (by simp [go_sem]), by simp [go_sem]⟩
  · exact ⟨.slice (some ⟨w1.heap.size + 1, 0, none⟩) 2 2, by simp [go_sem], RdU.two (by simp [go_sem]) (by simp [go_sem]), by simp [go_sem]⟩
  · simp [maxLen]
  rintro e w2 ⟨rfl, hb2⟩
  have HB2 := Lib.hid (HB1.out.trans ((below_trans (by repeat (first | exact Below.refl _ _ | (refine Below.drew ?_) | (refine below_drewN' ?_ _) | (refine below_alloc' ?_ _) | (refine Below.setCell ?_ (by first | exact Nat.le_refl _ | (simp; done) | (simp; omega)) _))) hb2).mono HB1.out.size))
  clear hb2
  go_wp2_with fail
  go_ret
  exact ⟨rfl, HB2.out⟩
end Go.Proofs.YtjokcagggmjgmaaGreat
/-! HvyE -/
namespace Go.Proofs.YtjokcagggmjgmaaGreat
open Go.RowKit
set_option linter.unusedVariables false
set_option linter.unusedSimpArgs false
set_option maxRecDepth 100000

def heavyE (l : List En) (most : Int) : Bool := decide ((l.length : Int) > most) || l.any fun a => decide (a.p.length > 40)
theorem heavyE_any (w : World) (l : List En) (v : Value) (most : Int) (hv : RdE w v l) (hl : l.length ≤ maxLen) :
    Calls Tryz.prog 26 #[v, .int .i64 most] w fun e w' => e = .returned (.bool (heavyE l most)) ∧ w' = w := by
  obtain ⟨A, c, rfl, _, hx⟩ := hv
  have HX := Lib.hid hx
  have HL := Lib.hid (show l.length ≤ 9223372036854775807 from Nat.le_trans hl (by decide))
  clear hx hl
  by_cases hm : (l.length : Int) > most
  · have HH := Lib.hid (show heavyE l most = true by unfold heavyE; rw [decide_eq_true hm]; rfl)
    go_enter Tryz.func26, Tryz.ntmps26
    go_wp2_with fail
    go_ret
    exact ⟨by rw [HH.out] <;> rfl, rfl⟩
  · have hh : heavyE l most = l.any fun a => decide (a.p.length > 40) := by unfold heavyE; rw [decide_eq_false hm]; rfl
    have HH := Lib.hid hh
    clear hh
    go_enter Tryz.func26, Tryz.ntmps26
    go_wp2_with fail
    go_loopw [5] (fun iv wr => ∃ j : Nat, j ≤ l.length ∧ iv = .int .i64 (j : Nat) ∧ wr = w ∧ (l.take j).any (fun a => decide (a.p.length > 40)) = false) (fun iv _ => l.length - (intOf iv).toNat)
    case atStart => exact ⟨0, Nat.zero_le _, rfl, rfl, by simp⟩
    case round =>
      obtain ⟨j, hj, rfl, hw, hany⟩ := hrel
      subst hw
      by_cases hlt : j < l.length
      · have h3 : (j : Int) < (l.length : Int) := by omega
        have h5 : (0 : Int) ≤ (j : Int) := by omega
        have HW := Lib.hid (show wrap64 ((j : Int) + 1) = ((j + 1 : Nat) : Int) by have := HL.out; unfold wrap64; omega)
        obtain ⟨b2, o2, rfl, hc⟩ := HX.out (by omega)
        obtain ⟨u, k0, ku, k1⟩ := hc j hlt
        have htk : (l.take (j + 1)).any (fun a => decide (a.p.length > 40)) = decide (l[j].p.length > 40) := by rw [← List.take_append_getElem hlt, List.any_append, hany]; simp
        have hall : decide (l[j].p.length > 40) = true → (l.any fun a => decide (a.p.length > 40)) = true := fun h => List.any_eq_true.2 ⟨_, List.getElem_mem hlt, h⟩
        have HT := Lib.hid (And.intro htk hall)
        have hlb := World.block_lt_of_cell? _ _ k0
        obtain ⟨Au, cu, rfl, _⟩ := RdU.point ku
        generalize l[j] = ac at *
        clear hc htk hall ku hany
        by_cases h40 : (ac.p.length : Int) > 40
        · go_wp2_with fail
          go_ret
          exact ⟨by rw [HH.out, HT.out.2 (by simp; omega)] <;> rfl, rfl⟩
        · go_wp2_with fail
          go_roundw
          case rel => exact ⟨j + 1, by omega, (by first | rw [HW.out] | rfl | simp), (by first | rfl | trivial), by rw [HT.out.1]; simp; omega⟩
          case measure => (first | (rw [intOf_of' HW.out, intOf_of' rfl]; omega) | (simp [intOf]; omega) | (simp [intOf] <;> omega))
      · have h3 : ¬ (j : Int) < (l.length : Int) := by omega
        rw [List.take_of_length_le (by omega)] at hany
        have HA := Lib.hid hany
        clear hany
        go_wp2_with fail
        go_ret
        exact ⟨by rw [HH.out, HA.out] <;> rfl, rfl⟩
end Go.Proofs.YtjokcagggmjgmaaGreat
/-! OpenC -/
namespace Go.Proofs.YtjokcagggmjgmaaGreat
open Go.RowKit Go.ChangeShapes Go.WideShapes Go.Deep
set_option linter.unusedVariables false

section
variable {H : Type} {enc : TypeId × Value → H} {P : Program} {w : World} {base : Nat} {spare : Nat → Bool} {held : Bool}
theorem open_slice_fields {t e : TypeId} {fs : Array Field} {fuel : Nat} {cs : List Value} {x : DataW H × List MemPlace} (ht : P.underlying t = some (.slice e)) (he : P.underlying e = some (.struct fs))
    (hone : oneCellFields P fs = true) (hC : P.cellsOf e = fs.size) (h : DataW.trod enc P w base spare held fuel t cs = some x) :
    (cs = [.slice none 0 0]) ∨
    ∃ (a : Addr) (len cap m : Nat), cs = [.slice (some a) len cap] ∧ len ≤ cap ∧ cap ≤ maxLen ∧ m = (if spare a.block then cap else len) ∧
      ∀ i, i < m → ∀ (j : Nat) (f : Field), fs[j]? = some f → ∃ (v : Value) (y : DataW H × List MemPlace) (n : Nat), w.cell? (a.add (i * fs.size + j)) = some v ∧ DataW.trod enc P w base spare held n f.type [v] = some y := by
  rcases open_slice ht h with h0 | ⟨a, len, cap, m, n, D, Pl, hcs, hb, hl, hm, hmm, hx, hi⟩
  · exact .inl h0.1
  · refine .inr ⟨a, len, cap, m, hcs, hl, hm, hmm, fun i him => ?_⟩
    obtain ⟨cs', hc, ht'⟩ := hi i him
    rw [hC] at hc
    obtain ⟨ys, n', hn', hy, hlen, hyl, hf⟩ := DataW.trod_struct he ht'
    obtain ⟨_, hcl, hat⟩ := World.cells?_some hc
    intro j f hj
    obtain ⟨ho, hk⟩ := hone_of hone j f hj
    have hjl : j < fs.size := (Array.getElem?_eq_some_iff.1 hj).1
    have hcell := hat j hjl
    have hv : cs'[j]? = some (cs'[j]'(by omega)) := List.getElem?_eq_getElem (by omega)
    have h1 := hf j f hj
    rw [ho, hk] at h1
    have hone' : (cs'.drop j).take 1 = [cs'[j]'(by omega)] := by
      rw [List.drop_eq_getElem_cons (by omega)]
      rfl
    rw [hone'] at h1
    have hys : ys[j]? = some (ys[j]'(by omega)) := List.getElem?_eq_getElem (by omega)
    refine ⟨_, _, n', ?_, h1.trans hys⟩
    rw [← Go.Deep.add_add, hcell, hv]
end
theorem spot_none {w : World} {a : Addr} {v : Value} (h : w.cell? a = some v) : ∃ b o, a = ⟨b, o, none⟩ := by
  obtain ⟨b, o, sp⟩ := a
  cases sp with
  | none => exact ⟨b, o, rfl⟩
  | some q => simp [World.cell?] at h; split at h <;> cases h
theorem add_plain (b o j : Nat) : (⟨b, o, none⟩ : Addr).add j = ⟨b, o + j, none⟩ := by
  unfold Addr.add; split
  · rename_i h; subst h; rfl
  · rfl
theorem pti_toNat {xs : List Int} (h : ∀ x ∈ xs, 0 ≤ x ∧ x ≤ 18446744073709551615) : pti (xs.map Int.toNat) = xs := by
  unfold pti
  rw [List.map_map]
  conv => rhs; rw [← List.map_id xs]
  apply List.map_congr_left
  intro x hx
  have := h x hx
  simp only [Function.comp_apply, id]
  omega
instance : Inhabited Ch := ⟨⟨[], false, false, 0, 0⟩⟩
end Go.Proofs.YtjokcagggmjgmaaGreat
/-! OpenA -/
namespace Go.Proofs.YtjokcagggmjgmaaGreat
open Go.RowKit Go.ChangeShapes Go.WideShapes Go.Deep
set_option linter.unusedVariables false

/-- an act's numbers, whatever its point's length -/
def Ac.OkV (a : Ac) : Prop := (∀ c ∈ a.p, c < 2 ^ 64) ∧ a.v < 2 ^ 64
end Go.Proofs.YtjokcagggmjgmaaGreat
/-! OpenE -/
namespace Go.Proofs.YtjokcagggmjgmaaGreat
open Go.RowKit Go.ChangeShapes Go.WideShapes Go.Deep
set_option linter.unusedVariables false

/-- an entry's numbers, whatever its point's length -/
def En.OkV (a : En) : Prop := (∀ c ∈ a.p, c < 2 ^ 64) ∧ a.v < 2 ^ 64
theorem open_ents {H : Type} {enc : TypeId × Value → H} {W : World} {base : Nat} {held : Bool} {v : Value} {x : DataW H × List MemPlace} {fuel : Nat}
    (h : DataW.trod enc Tryz.prog W base (fun _ => true) held fuel 28 [v] = some x) :
    ∃ l, RdE W v l ∧ (∀ c ∈ l, En.OkV c) ∧ l.length ≤ maxLen ∧ ∃ A n c, v = .slice A n c ∧ n ≤ c ∧ c ≤ maxLen ∧ (0 < c → ∃ b o, A = some ⟨b, o, none⟩) := by
  have hu : ∃ fs, Tryz.prog.underlying 51 = some (.struct fs) ∧ fs.size = 2 ∧ (fs[0]?.map (·.type) = some 48) ∧ (fs[1]?.map (·.type) = some 49) ∧ oneCellFields Tryz.prog fs = true ∧ Tryz.prog.cellsOf 51 = fs.size :=
    ⟨_, Tryz.underlying51, by kernel_rfl, by kernel_rfl, by kernel_rfl, by kernel_rfl, by kernel_rfl⟩
  obtain ⟨fs, he, hs, t0, t1, hone, hC⟩ := hu
  rcases open_slice_fields Tryz.underlying28 he hone hC h with h0 | ⟨a, len, cap, m, hcs, hl, hm, hmm, hf⟩
  · simp only [List.cons.injEq, and_true] at h0
    subst h0
    exact ⟨[], ⟨none, 0, rfl, ⟨Nat.le_refl _, Nat.zero_le _, fun h => absurd h (by omega)⟩, fun h => absurd h (by simp)⟩, fun c hc => by simp at hc, by simp [maxLen], none, 0, 0, rfl, Nat.le_refl _, Nat.zero_le _, fun h => absurd h (by omega)⟩
  · simp only [List.cons.injEq, and_true] at hcs
    subst hcs
    have hlm : len ≤ m := by rw [hmm]; split <;> omega
    rw [hs] at hf
    have hmc : m = cap := by rw [hmm]; rfl
    have hab : 0 < cap → ∃ b o, a = ⟨b, o, none⟩ := by
      intro h0
      obtain ⟨f0, q0, r0⟩ := Option.map_eq_some_iff.1 t0
      obtain ⟨v0, y0, n0, c0, d0⟩ := hf 0 (by omega) 0 f0 q0
      exact spot_none (by simpa [Addr.add] using c0)
    have each : ∀ i, i < len → ∃ c, (En.OkV c) ∧ ∃ b o, a = ⟨b, o, none⟩ ∧ EnAt W b (o + i * 2) c := by
      intro i hi
      have hfi := hf i (by omega)
      obtain ⟨f0, q0, r0⟩ := Option.map_eq_some_iff.1 t0
      obtain ⟨f1, q1, r1⟩ := Option.map_eq_some_iff.1 t1
      obtain ⟨v0, y0, n0, c0, d0⟩ := hfi 0 f0 q0
      obtain ⟨v1, y1, n1, c1, d1⟩ := hfi 1 f1 q1
      rw [r0] at d0; rw [r1] at d1
      obtain ⟨b, o, ha⟩ := hab (by omega)
      subst ha
      rw [add_plain] at c0 c1
      obtain ⟨i1, e1, _, w1⟩ := DataW.trod_int Tryz.underlying49 d1
      simp only [List.cons.injEq, and_true] at e1
      subst e1
      have hp0 : ∃ xs : List Int, (∀ x ∈ xs, 0 ≤ x ∧ x ≤ 18446744073709551615) ∧ RdU W v0 xs := by
        rcases open_ints Tryz.underlying48 Tryz.underlying49 (by kernel_rfl) d0 with ⟨hcs, _⟩ | ⟨x, l, c, zs, hcs, _, hl, hm, hz, _, hcell, hwz⟩
        · simp only [List.cons.injEq, and_true] at hcs
          subst hcs
          exact ⟨[], fun x hx => by simp at hx, RdU.nil _ _ _⟩
        · simp only [List.cons.injEq, and_true] at hcs
          subst hcs
          obtain ⟨xs, _, _, h3, h4⟩ := RdU.of_row (w := W) (a := some x) (len := l) (cap := c) (zs := zs) (.inr ⟨_, rfl, hl, hm, by simpa using hz, hcell, hwz⟩)
          exact ⟨xs, h3, h4⟩
      obtain ⟨xs0, hx0, hv0⟩ := hp0
      have ho0 : ∀ y ∈ xs0.map Int.toNat, y < 2 ^ 64 := fun y hy => by
        simp only [List.mem_map] at hy
        obtain ⟨z, hz, rfl⟩ := hy
        have := hx0 z hz
        omega
      have g1 := bounds_u64 w1
      refine ⟨(⟨xs0.map Int.toNat, i1.toNat⟩ : En), ⟨ho0, by show i1.toNat < 2 ^ 64; omega⟩, b, o, rfl, ?_⟩
      have z0 : W.cell? ⟨b, o + i * 2, none⟩ = some v0 := by simpa [Nat.add_assoc] using c0
      have y0' : RdU W v0 (pti (xs0.map Int.toNat)) := by rw [pti_toNat hx0]; exact hv0
      have z1 : W.cell? ⟨b, o + i * 2 + 1, none⟩ = some (.int .u64 (i1.toNat : Nat)) := by rw [show ((i1.toNat : Nat) : Int) = i1 by omega]; simpa [Nat.add_assoc] using c1
      exact ⟨v0, by simpa [Nat.add_assoc] using z0, y0', by simpa [Nat.add_assoc] using z1⟩
    obtain ⟨f, hF⟩ := choose_lt each
    refine ⟨(List.range len).map f, ⟨some a, cap, by simp, ⟨by simp; omega, hm, fun h => by obtain ⟨b, o, ha⟩ := hab h; exact ⟨b, o, by rw [ha]⟩⟩, fun hp => ?_⟩, ?_, by simp; omega, some a, len, cap, rfl, hl, hm, fun h => ?_⟩
    · have hp' : 0 < len := by simpa using hp
      obtain ⟨_, b, o, ha, _⟩ := hF 0 hp'
      refine ⟨b, o, by rw [ha], fun j hj => ?_⟩
      obtain ⟨_, b', o', ha', hc⟩ := hF j (by simpa using hj)
      rw [ha] at ha'
      injection ha' with e1 e2
      subst e1 e2
      simpa using hc
    · intro c hc
      simp only [List.mem_map, List.mem_range] at hc
      obtain ⟨j, hj, rfl⟩ := hc
      exact (hF j hj).1
    · obtain ⟨b, o, ha⟩ := hab h
      exact ⟨b, o, by rw [ha]⟩
end Go.Proofs.YtjokcagggmjgmaaGreat
/-! LawMakes -/
namespace Go.Proofs.YtjokcagggmjgmaaGreat
open Go.RowKit
set_option linter.unusedVariables false
set_option linter.unusedSimpArgs false
set_option maxRecDepth 100000

theorem heavyE_ok {l : List En} {most : Nat} (h : heavyE l most = false) : l.length ≤ most ∧ ∀ a ∈ l, a.p.length ≤ 40 := by
  unfold heavyE at h
  rw [Bool.or_eq_false_iff] at h
  refine ⟨by have := of_decide_eq_false h.1; omega, fun a ha => ?_⟩
  have := List.any_eq_false.1 h.2 a ha
  simp at this
  omega
end Go.Proofs.YtjokcagggmjgmaaGreat
/-! WlkP -/
namespace Go.Proofs.YtjokcagggmjgmaaGreat
open Go.RowKit
set_option linter.unusedVariables false

theorem fromI_zero (l : List (Nat × Nat)) : fromI l 0 = l[0]? := by
  unfold fromI
  cases l with
  | nil => rfl
  | cons x l => simp
theorem fromI_skip {x : Nat × Nat} {l : List (Nat × Nat)} {a : Int} (h : (x.1 : Int) < a) : fromI (x :: l) a = fromI l a := by
  unfold fromI
  rw [List.find?_cons_of_neg]
  simp; omega
theorem fromI_hit {x : Nat × Nat} {l : List (Nat × Nat)} {a : Int} (h : a ≤ (x.1 : Int)) : fromI (x :: l) a = some x := by
  unfold fromI
  rw [List.find?_cons_of_pos]
  simpa using h
theorem fromI_next {l : List (Nat × Nat)} (h : Od.Asc ka l) (j : Nat) (hj : j < l.length) : fromI l (((l[j].1 : Nat) : Int) + 1) = l[j + 1]? := by
  induction l generalizing j with
  | nil => simp at hj
  | cons x l ih =>
    cases j with
    | zero =>
      rw [List.getElem_cons_zero, fromI_skip (by omega)]
      cases l with
      | nil => rfl
      | cons y l =>
        have : x.1 < y.1 := h.head y (List.mem_cons_self ..)
        rw [fromI_hit (by omega)]
        rfl
    | succ j =>
      have hj' : j < l.length := by simpa using hj
      have : x.1 < l[j].1 := h.head _ (List.getElem_mem hj')
      rw [List.getElem_cons_succ, fromI_skip (by omega), ih h.tail j hj']
      rfl
/-- what From hands back: the address, the kid -/
def frA (o : Option (Nat × Nat)) : Value := match o with | some x => .int .i64 (x.1 : Nat) | none => .int .i64 0
def frK (o : Option (Nat × Nat)) : Value := match o with | some x => pv (some x.2) | none => .pointer none
theorem frA_some (x : Nat × Nat) : frA (some x) = .int .i64 (x.1 : Nat) := rfl
theorem frK_some (x : Nat × Nat) : frK (some x) = .pointer (some ⟨x.2, 0, none⟩) := rfl
theorem frA_none : frA none = .int .i64 0 := rfl
theorem frK_none : frK none = .pointer none := rfl
theorem nfromV_eq (o : Option (Nat × Nat)) : nfromV o = .tuple #[frA o, frK o] := by cases o <;> rfl
def frO (ks : List (Nat × Nat × List En)) (j : Nat) : Option (Nat × Nat) := (ks.map kb)[j]?
theorem frO_some {ks : List (Nat × Nat × List En)} {j : Nat} (h : j < ks.length) : frO ks j = some (ks[j].1, ks[j].2.1) := by
  unfold frO; rw [List.getElem?_map, List.getElem?_eq_getElem h]; rfl
theorem frO_none {ks : List (Nat × Nat × List En)} {j : Nat} (h : ¬ j < ks.length) : frO ks j = none := by
  unfold frO; rw [List.getElem?_map, List.getElem?_eq_none (by omega)]; rfl
/-- how far there is to go -/
def kmu (a k : Value) : Nat := match k with | .pointer none => 0 | _ => 65537 - (intOf a).toNat
theorem kmu_some (x b : Nat) : kmu (.int .i64 (x : Nat)) (.pointer (some ⟨b, 0, none⟩)) = 65537 - x := by
  show 65537 - (intOf (.int .i64 (x : Nat))).toNat = _
  rw [intOf_nat, Int.toNat_natCast]
/-- From, kid by kid -/
structure FromK (w : World) (b : Nat) (ks : List (Nat × Nat × List En)) : Prop where
  zero : ∀ w', Below w.heap.size w w' → Calls Tryz.prog 139 #[.pointer (some ⟨b, 0, none⟩), .int .i64 0] w' fun e w'' => e = .returned (.tuple #[frA (frO ks 0), frK (frO ks 0)]) ∧ Below w'.heap.size w' w''
  next : ∀ j (hj : j < ks.length) w', Below w.heap.size w w' → Calls Tryz.prog 139 #[.pointer (some ⟨b, 0, none⟩), .int .i64 (((ks[j].1 : Nat) : Int) + 1)] w' fun e w'' => e = .returned (.tuple #[frA (frO ks (j + 1)), frK (frO ks (j + 1))]) ∧ Below w'.heap.size w' w''
  lt : ∀ j (hj : j < ks.length), ks[j].1 < 65536
  mu : ∀ j (hj : j < ks.length), kmu (frA (frO ks (j + 1))) (frK (frO ks (j + 1))) < kmu (frA (frO ks j)) (frK (frO ks j))
theorem FromK.of {w : World} {b s k : Nat} {ks : List (Nat × Nat × List En)} (c3 : w.cell? ⟨b, 3, none⟩ = some (.pointer (some ⟨s, 0, none⟩))) (hs : SlR w s k (ks.map kb)) : FromK w b ks := by
  have hasc := hs.rw'.asc
  have hlt : ∀ j (hj : j < ks.length), ks[j].1 < 65536 := fun j hj => by
    have h1 := hs.rw'.lt (kb ks[j]) (List.mem_map_of_mem (List.getElem_mem hj))
    have h2 := pow_le k hs.k16
    have : (kb ks[j]).1 = ks[j].1 := rfl
    omega
  refine ⟨fun w' hb => ?_, fun j hj w' hb => ?_, hlt, fun j hj => ?_⟩
  · have := nfrom_any w' b s k (ks.map kb) 0 (Below.keeps hb _ _ c3) (hs.below hb)
    rw [nfromV_eq, fromI_zero] at this
    exact this
  · have := nfrom_any w' b s k (ks.map kb) (((ks[j].1 : Nat) : Int) + 1) (Below.keeps hb _ _ c3) (hs.below hb)
    have h2 := fromI_next hasc j (by rw [List.length_map]; exact hj)
    rw [List.getElem_map] at h2
    rw [nfromV_eq, show ((ks[j].1 : Nat) : Int) = (((kb ks[j]).1 : Nat) : Int) from rfl, h2] at this
    exact this
  · rw [frO_some hj]
    by_cases h : j + 1 < ks.length
    · rw [frO_some h]
      have h1 : ((ks.map kb)[j]'(by simpa using hj)).1 < ((ks.map kb)[j + 1]'(by simpa using h)).1 := List.pairwise_iff_getElem.1 hasc j (j + 1) (by simpa using hj) (by simpa using h) (by omega)
      rw [List.getElem_map, List.getElem_map] at h1
      have h1 : ks[j].1 < ks[j + 1].1 := h1
      have h2 := hlt _ h
      show kmu (.int .i64 (ks[j + 1].1 : Nat)) (.pointer (some ⟨ks[j + 1].2.1, 0, none⟩)) < kmu (.int .i64 (ks[j].1 : Nat)) (.pointer (some ⟨ks[j].2.1, 0, none⟩))
      rw [kmu_some, kmu_some]
      omega
    · rw [frO_none h]
      have h2 := hlt _ hj
      show 0 < kmu (.int .i64 (ks[j].1 : Nat)) (.pointer (some ⟨ks[j].2.1, 0, none⟩))
      rw [kmu_some]
      omega
theorem FromK.bel {w w1 : World} {b : Nat} {ks : List (Nat × Nat × List En)} (h : FromK w b ks) (hb : Below w.heap.size w w1) : FromK w1 b ks :=
  ⟨fun w' hb2 => h.zero w' (hb.trans (hb2.mono hb.size)), fun j hj w' hb2 => h.next j hj w' (hb.trans (hb2.mono hb.size)), h.lt, h.mu⟩
end Go.Proofs.YtjokcagggmjgmaaGreat
/-! WlkA -/
namespace Go.Proofs.YtjokcagggmjgmaaGreat
open Go.RowKit
set_option linter.unusedVariables false
set_option linter.unusedSimpArgs false
set_option maxRecDepth 100000

/-- the function f, with cap captured, is told entries; Inv says what it has been told -/
structure Tell (W : World) (f : FuncId) (cap : Array Value) (N : Nat) (Inv : List En → World → Prop) : Prop where
  ent : ∀ args w, (callFunc f args).run Tryz.prog w = .ok (.enter f args) w
  tell : ∀ d e u w', d.length < N → Inv d w' → Below W.heap.size W w' → PtNew w' u e.p → Calls Tryz.prog f (#[.agg #[u, .int .u64 (e.v : Nat)]] ++ cap) w' fun r w'' => r = .returned (.bool true) ∧ Inv (d ++ [e]) w'' ∧ Below W.heap.size W w''
  step : ∀ d w' w'', Inv d w' → Below w'.heap.size w' w'' → Inv d w''
def EachP (W : World) (Inv : List En → World → Prop) (d : List En) (e : Ending) (w' : World) : Prop := e = .returned (.bool true) ∧ Inv d w' ∧ Below W.heap.size W w'
theorem each_nil (w : World) (f : FuncId) (cap : Array Value) : Calls Tryz.prog 137 #[.pointer none, .func (.func f) #[] cap] w fun e w' => e = .returned (.bool true) ∧ w' = w := by
  go_enter Tryz.func137, Tryz.ntmps137
  go_wp2_with fail
  go_ret
  exact ⟨rfl, rfl⟩
set_option maxHeartbeats 2000000 in
theorem each_leaf (W w : World) (f : FuncId) (cap : Array Value) (N k b : Nat) (p : List Nat) (v : Nat) (Inv : List En → World → Prop) (d : List En) (T : Tell W f cap N Inv)
    (h : Hd W b (-1) p v (.pointer none) (Sm.of v)) (hp : p.length = k) (k1 : 1 ≤ k) (k16 : k ≤ 16) (hi : Inv d w) (hb : Below W.heap.size W w) (hN : d.length < N) :
    Calls Tryz.prog 137 #[.pointer (some ⟨b, 0, none⟩), .func (.func f) #[] cap] w fun e w' => EachP W Inv (d ++ [⟨p, v⟩]) e w' := by
  have HE := Lib.hid (ent_leaf w b k v (-1) p (Sm.of v) (h.keep hb) hp k1 k16)
  have HI := Lib.hid (And.intro hi (And.intro hb hN))
  have HT := Lib.hid T
  have hent := T.ent
  have hbl := (h.keep hb).c0
  have hbl := World.block_lt_of_cell? w _ hbl
  clear T h hp k1 k16 hi hb hN
  go_enter Tryz.func137, Tryz.ntmps137
  go_wp2_with fail
  refine HE.out.mono ?_
  rintro e w1 ⟨u, rfl, hpt, hb1⟩
  obtain ⟨A9, c9, rfl, _⟩ := RdU.point hpt.rd
  have HP := Lib.hid (And.intro hpt hb1)
  clear hpt hb1 hbl
  go_wp2_with fail
  refine (HT.out.tell _ ⟨p, v⟩ _ _ HI.out.2.2 (HT.out.step _ _ _ HI.out.1 (below_trans HP.out.2 (by repeat (first | exact Below.refl _ _ | (refine Below.drew ?_) | (refine below_drewN' ?_ _) | (refine below_alloc' ?_ _) | (refine Below.setCell ?_ (by first | exact Nat.le_refl _ | (simp; done) | (simp; omega)) _))))) (HI.out.2.1.trans ((below_trans HP.out.2 (by repeat (first | exact Below.refl _ _ | (refine Below.drew ?_) | (refine below_drewN' ?_ _) | (refine below_alloc' ?_ _) | (refine Below.setCell ?_ (by first | exact Nat.le_refl _ | (simp; done) | (simp; omega)) _)))).mono HI.out.2.1.size)) (HP.out.1.below (by repeat (first | exact Below.refl _ _ | (refine Below.drew ?_) | (refine below_drewN' ?_ _) | (refine below_alloc' ?_ _) | (refine Below.setCell ?_ (by first | exact Nat.le_refl _ | (simp; done) | (simp; omega)) _))))).mono ?_
  rintro e w2 ⟨rfl, hi2, hb2⟩
  have HF := Lib.hid (And.intro hi2 hb2)
  clear hi2 hb2
  go_wp2_with fail
  go_ret
  exact ⟨rfl, HF.out⟩
set_option maxHeartbeats 4000000 in
theorem each_node (W w : World) (f : FuncId) (cap : Array Value) (N b s k : Nat) (ks : List (Nat × Nat × List En)) (Inv : List En → World → Prop) (d : List En) (T : Tell W f cap N Inv)
    (c3 : W.cell? ⟨b, 3, none⟩ = some (.pointer (some ⟨s, 0, none⟩))) (hs : SlR W s k (ks.map kb)) (hi : Inv d w) (hb : Below W.heap.size W w) (hN : d.length + (cat (ks.map kl)).length ≤ N)
    (ih : ∀ x ∈ ks, ∀ (w' : World) (d : List En), Inv d w' → Below W.heap.size W w' → d.length + x.2.2.length ≤ N → Calls Tryz.prog 137 #[.pointer (some ⟨x.2.1, 0, none⟩), .func (.func f) #[] cap] w' fun e w'' => EachP W Inv (d ++ x.2.2) e w'') :
    Calls Tryz.prog 137 #[.pointer (some ⟨b, 0, none⟩), .func (.func f) #[] cap] w fun e w' => EachP W Inv (d ++ cat (ks.map kl)) e w' := by
  have HE := Lib.hid (ent_node w b s (Below.keeps hb _ _ c3))
  have HFK := Lib.hid (FromK.of c3 hs)
  have HI := Lib.hid (And.intro hi (And.intro hb hN))
  have HT := Lib.hid T
  have HIH := Lib.hid ih
  have hbl := World.block_lt_of_cell? w _ (Below.keeps hb _ _ c3)
  clear T c3 hs hi hb hN ih
  go_enter Tryz.func137, Tryz.ntmps137
  go_wp2_with fail
  refine HE.out.mono ?_
  rintro e w1 ⟨rfl, hb1⟩
  have HB1 := Lib.hid (HI.out.2.1.trans (hb1.mono HI.out.2.1.size))
  have HI1 := Lib.hid (HT.out.step _ _ _ HI.out.1 hb1)
  clear hb1 hbl
  go_wp2_with fail
  refine (HFK.out.zero _ (below_trans HB1.out (by repeat (first | exact Below.refl _ _ | (refine Below.drew ?_) | (refine below_drewN' ?_ _) | (refine below_alloc' ?_ _) | (refine Below.setCell ?_ (by first | exact Nat.le_refl _ | (simp; done) | (simp; omega)) _))))).mono ?_
  rintro e w2 ⟨rfl, hb2⟩
  have HB2 := Lib.hid ((below_trans HB1.out (by repeat (first | exact Below.refl _ _ | (refine Below.drew ?_) | (refine below_drewN' ?_ _) | (refine below_alloc' ?_ _) | (refine Below.setCell ?_ (by first | exact Nat.le_refl _ | (simp; done) | (simp; omega)) _)))).trans (hb2.mono (below_trans HB1.out (by repeat (first | exact Below.refl _ _ | (refine Below.drew ?_) | (refine below_drewN' ?_ _) | (refine below_alloc' ?_ _) | (refine Below.setCell ?_ (by first | exact Nat.le_refl _ | (simp; done) | (simp; omega)) _)))).size))
  have HI2 := Lib.hid (HT.out.step _ _ _ (HT.out.step _ _ _ HI1.out ((by repeat (first | exact Below.refl _ _ | (refine Below.drew ?_) | (refine below_drewN' ?_ _) | (refine below_alloc' ?_ _) | (refine Below.setCell ?_ (by first | exact Nat.le_refl _ | (simp; done) | (simp; omega)) _))) : Below w1.heap.size w1 _)) hb2)
  clear hb2
  go_wp2_with fail
  go_loopw [7, 8] (fun av kv wr => ∃ j : Nat, j ≤ ks.length ∧ av = frA (frO ks j) ∧ kv = frK (frO ks j) ∧ Inv (d ++ cat ((ks.map kl).take j)) wr ∧ Below W.heap.size W wr) (fun av kv _ => kmu av kv)
  case atStart => exact ⟨0, Nat.zero_le _, rfl, rfl, by simpa [cat] using HI2.out, HB2.out⟩
  case round =>
    obtain ⟨j, hj, rfl, rfl, hi, hb⟩ := hrel
    have HR := Lib.hid (And.intro hi hb)
    by_cases hlt : j < ks.length
    · have hcat := cat_take_succ (ks.map kl) j (by rw [List.length_map]; exact hlt)
      have hroom := cat_room (ks.map kl) j (by rw [List.length_map]; exact hlt)
      rw [List.getElem_map] at hcat hroom
      have hk2 : (kl ks[j]).2 = ks[j].2.2 := rfl
      rw [hk2] at hcat hroom
      have HK := Lib.hid (HIH.out ks[j] (List.getElem_mem hlt) wr _ hi hb (by have := HI.out.2.2; rw [List.length_append]; omega))
      have HNX := Lib.hid (HFK.out.next j hlt)
      have HMU := Lib.hid (HFK.out.mu j hlt)
      have HC := Lib.hid hcat
      have hla := HFK.out.lt j hlt
      rw [frO_some hlt] at HMU ⊢
      obtain ⟨A, hA⟩ : ∃ A, ks[j].1 = A := ⟨_, rfl⟩
      obtain ⟨B, hB⟩ : ∃ B, ks[j].2.1 = B := ⟨_, rfl⟩
      rw [hA] at HNX HMU hla ⊢
      rw [hB] at HK HMU ⊢
      have HW := Lib.hid (show wrap64 ((A : Int) + 1) = (A : Int) + 1 by unfold wrap64; omega)
      rw [frA_some, frK_some]
      clear hi hb hcat hroom hk2 hA hB hla
      go_wp2_with fail
      refine HK.out.mono ?_
      rintro e w3 ⟨rfl, hi3, hb3⟩
      have HR3 := Lib.hid (And.intro hi3 hb3)
      clear hi3 hb3
      go_wp2_with fail
      rw [HW.out]
      refine (HNX.out _ (below_trans HR3.out.2 (by repeat (first | exact Below.refl _ _ | (refine Below.drew ?_) | (refine below_drewN' ?_ _) | (refine below_alloc' ?_ _) | (refine Below.setCell ?_ (by first | exact Nat.le_refl _ | (simp; done) | (simp; omega)) _))))).mono ?_
      rintro e w4 ⟨rfl, hb4⟩
      have HR4 := Lib.hid (And.intro (HT.out.step _ _ _ HR3.out.1 hb4) (HR3.out.2.trans (hb4.mono HR3.out.2.size)))
      clear hb4
      go_wp2_with fail
      go_roundw
      case rel => exact ⟨j + 1, by omega, rfl, rfl, by rw [HC.out, ← List.append_assoc]; exact HR4.out.1, HR4.out.2⟩
      case measure => exact HMU.out
    · rw [frO_none hlt]
      rw [frA_none, frK_none]
      have e : (ks.map kl).take j = ks.map kl := List.take_of_length_le (by rw [List.length_map]; omega)
      rw [e] at HR
      clear hi hb e
      go_wp2_with fail
      go_ret
      exact ⟨rfl, HR.out⟩
theorem each_nd (W : World) (f : FuncId) (cap : Array Value) (N k : Nat) (Inv : List En → World → Prop) (T : Tell W f cap N Inv) (k1 : 1 ≤ k) (k16 : k ≤ 16) {b : Nat} {l : List En} (h : Nd W k b l) :
    ∀ (w : World) (d : List En), Inv d w → Below W.heap.size W w → d.length + l.length ≤ N → Calls Tryz.prog 137 #[.pointer (some ⟨b, 0, none⟩), .func (.func f) #[] cap] w fun e w' => EachP W Inv (d ++ l) e w' := by
  induction h with
  | leaf b p v h hp ho hv => exact fun w d hi hb hN => each_leaf W w f cap N k b p v Inv d T h hp k1 k16 hi hb (by simp at hN; omega)
  | node b s n pre ks h hs hkd hn ih => exact fun w d hi hb hN => each_node W w f cap N b s k ks Inv d T h.c3 hs hi hb hN ih
end Go.Proofs.YtjokcagggmjgmaaGreat
/-! EntD -/
namespace Go.Proofs.YtjokcagggmjgmaaGreat
open Go.RowKit
set_option linter.unusedVariables false

/-- the cells cs hold the entries l, Pt saying what a point's value reads as -/
def CellsD (Pt : Value → List Nat → Prop) : List En → List Value → Prop
  | [], cs => cs = []
  | e :: l, cs => ∃ u ds, cs = u :: .int .u64 (e.v : Nat) :: ds ∧ Pt u e.p ∧ CellsD Pt l ds
theorem CellsD.length {Pt : Value → List Nat → Prop} {cs : List Value} {l : List En} (h : CellsD Pt l cs) : cs.length = l.length * 2 := by
  induction l generalizing cs with
  | nil => obtain rfl : cs = [] := h; rfl
  | cons e l ih => obtain ⟨u, ds, rfl, _, h⟩ := h; have := ih h; simp; omega
theorem CellsD.append {Pt : Value → List Nat → Prop} {cs ds : List Value} {l m : List En} (h : CellsD Pt l cs) (k : CellsD Pt m ds) : CellsD Pt (l ++ m) (cs ++ ds) := by
  induction l generalizing cs with
  | nil => obtain rfl : cs = [] := h; exact k
  | cons e l ih => obtain ⟨u, ds, rfl, hu, h⟩ := h; exact ⟨u, _, rfl, hu, ih h⟩
theorem CellsD.mono {Pt Qt : Value → List Nat → Prop} {cs : List Value} {l : List En} (h : CellsD Pt l cs) (hk : ∀ u p, Pt u p → Qt u p) : CellsD Qt l cs := by
  induction l generalizing cs with
  | nil => exact h
  | cons e l ih => obtain ⟨u, ds, rfl, hu, h⟩ := h; exact ⟨u, ds, rfl, hk _ _ hu, ih h⟩
theorem CellsD.oneCell {Pt : Value → List Nat → Prop} {w : World} (hp : ∀ u p, Pt u p → RdU w u (pti p)) {cs : List Value} {l : List En} (h : CellsD Pt l cs) : ∀ u ∈ cs, u.oneCell' = true := by
  induction l generalizing cs with
  | nil => obtain rfl : cs = [] := h; intro u hu; simp at hu
  | cons e l ih =>
    obtain ⟨u, ds, rfl, hu, h⟩ := h
    intro y hy
    simp only [List.mem_cons] at hy
    rcases hy with rfl | rfl | hy
    · exact RdU.one' (hp _ _ hu)
    · rfl
    · exact ih h y hy
theorem CellsD.get {Pt : Value → List Nat → Prop} {cs : List Value} {l : List En} (h : CellsD Pt l cs) :
    ∀ j (h : j < l.length), ∃ u, cs[j * 2]? = some u ∧ Pt u l[j].p ∧ cs[j * 2 + 1]? = some (.int .u64 (l[j].v : Nat)) := by
  induction l generalizing cs with
  | nil => intro j hj; simp at hj
  | cons e l ih =>
    obtain ⟨u, ds, rfl, hu, h⟩ := h
    intro j hj
    cases j with
    | zero => exact ⟨u, by simp, hu, by simp⟩
    | succ j =>
      obtain ⟨u', h1, h2, h3⟩ := ih h j (by simpa using hj)
      refine ⟨u', ?_, by simpa using h2, ?_⟩
      · rw [show (j + 1) * 2 = j * 2 + 1 + 1 by omega]; simpa using h1
      · rw [show (j + 1) * 2 + 1 = j * 2 + 1 + 1 + 1 by omega]; simpa using h3
/-- v is a row of the call's own (the call began in W) that holds the entries l -/
def OwnD (Pt : Value → List Nat → Prop) (W w : World) (v : Value) (l : List En) : Prop := ∃ cs, w.ownsRow W.heap.size 51 2 v l.length cs ∧ CellsD Pt l cs
theorem OwnD.nil (Pt : Value → List Nat → Prop) (W w : World) : OwnD Pt W w (.slice none 0 0) [] := ⟨[], World.ownsRow_nil _ _ _ _, rfl⟩
theorem OwnD.mono {Pt Qt : Value → List Nat → Prop} {W w : World} {v : Value} {l : List En} (h : OwnD Pt W w v l) (hk : ∀ u p, Pt u p → Qt u p) : OwnD Qt W w v l := let ⟨cs, h1, h2⟩ := h; ⟨cs, h1, h2.mono hk⟩
theorem OwnD.alloc {Pt : Value → List Nat → Prop} {W w : World} {v : Value} {l : List En} (h : OwnD Pt W w v l) (o : Obj) : OwnD Pt W (w.alloc o) v l := let ⟨cs, h1, h2⟩ := h; ⟨cs, h1.alloc o, h2⟩
theorem OwnD.below {Pt : Value → List Nat → Prop} {W w w' : World} {v : Value} {l : List En} (h : OwnD Pt W w v l) (hb : Below w.heap.size w w') : OwnD Pt W w' v l := by
  obtain ⟨cs, ⟨h1, h2⟩, h3⟩ := h
  refine ⟨cs, ⟨h1, ?_⟩, h3⟩
  rcases h2 with h2 | ⟨g, cap, cur, q1, q2, q3, q4⟩
  · exact .inl h2
  · exact .inr ⟨g, cap, cur, q1, q2, (hb.block g (Array.getElem?_eq_some_iff.1 q3).1).trans q3, q4⟩
theorem OwnD.shape {Pt : Value → List Nat → Prop} {W w : World} {v : Value} {l : List En} (h : OwnD Pt W w v l) : ∃ A c, v = .slice A l.length c := by
  obtain ⟨cs, ⟨h1, h2⟩, h3⟩ := h
  rcases h2 with ⟨rfl, h0⟩ | ⟨g, cap, cur, rfl, _⟩
  · exact ⟨_, _, by rw [h0]⟩
  · exact ⟨_, _, rfl⟩
/-- a row that is not empty: its block -/
theorem OwnD.cells {Pt : Value → List Nat → Prop} {W w : World} {v : Value} {l : List En} (h : OwnD Pt W w v l) (hne : l ≠ []) :
    ∃ g cap cur, v = .slice (some ⟨g, 0, none⟩) l.length cap ∧ W.heap.size ≤ g ∧ w.heap[g]? = some (.cells cur 51 (0, 0)) ∧ l.length ≤ cap ∧ cap ≤ maxLen ∧ cur.size = cap * 2 ∧
      ∀ j (h : j < l.length), ∃ u, cur[j * 2]? = some u ∧ Pt u l[j].p ∧ cur[j * 2 + 1]? = some (.int .u64 (l[j].v : Nat)) := by
  have hpos := List.length_pos_iff.2 hne
  obtain ⟨cs, ⟨h1, h2⟩, h3⟩ := h
  rcases h2 with ⟨rfl, h0⟩ | ⟨g, cap, cur, rfl, q2, q3, q4, q5, q6, q7⟩
  · exact absurd hpos (by omega)
  · refine ⟨g, cap, cur, rfl, q2, q3, q4, q5, q6, fun j hj => ?_⟩
    obtain ⟨u, r1, r2, r3⟩ := h3.get j hj
    rw [← q7, List.getElem?_take_of_lt (by omega)] at r1 r3
    exact ⟨u, by simpa using r1, r2, by simpa using r3⟩
theorem OwnD.rd {Pt : Value → List Nat → Prop} {W w : World} {v : Value} {l : List En} (h : OwnD Pt W w v l) (hp : ∀ u p, Pt u p → RdU w u (pti p)) : RdE w v l := by
  by_cases hne : l = []
  · subst hne
    obtain ⟨cs, ⟨h1, h2⟩, h3⟩ := h
    rcases h2 with ⟨rfl, h0⟩ | ⟨g, cap, cur, rfl, q2, q3, q4, q5, q6, q7⟩
    · exact RdE.nil _ _ _ (Nat.zero_le _) fun h => absurd h (by omega)
    · exact RdE.nil _ _ _ q5 fun _ => ⟨_, _, rfl⟩
  · obtain ⟨g, cap, cur, rfl, q2, q3, q4, q5, q6, q7⟩ := h.cells hne
    refine ⟨_, _, rfl, ⟨q4, q5, fun _ => ⟨_, _, rfl⟩⟩, fun _ => ⟨g, 0, rfl, fun j hj => ?_⟩⟩
    obtain ⟨u, r1, r2, r3⟩ := q7 j hj
    exact ⟨u, by simp [World.cell?, q3, r1], hp _ _ r2, by simp [World.cell?, q3, r3]⟩
/-- the own block is a row of entries -/
theorem OwnD.block {Pt : Value → List Nat → Prop} {W w : World} {v : Value} {l : List En} (h : OwnD Pt W w v l) : ∀ k, v.ownBlock = some k → W.heap.size ≤ k ∧ ∃ cur, w.heap[k]? = some (.cells cur 51 (0, 0)) := by
  obtain ⟨cs, ⟨h1, h2⟩, h3⟩ := h
  intro k hk
  rcases h2 with ⟨rfl, _⟩ | ⟨g, cap, cur, rfl, q2, q3, q4⟩
  · cases hk
  · injection hk with hk; subst hk; exact ⟨q2, cur, q3⟩
/-- one entry to be appended -/
def SrcD (Pt : Value → List Nat → Prop) (w : World) (x : Value) (e : En) : Prop :=
  ∃ b cc u, x = .slice (some ⟨b, 0, none⟩) 1 cc ∧ w.cell? ⟨b, 0, none⟩ = some u ∧ Pt u e.p ∧ w.cell? ⟨b, 1, none⟩ = some (.int .u64 (e.v : Nat))
theorem run_append_D {Pt : Value → List Nat → Prop} (W w : World) (hp : ∀ u p, Pt u p → RdU w u (pti p)) (v x : Value) (l : List En) (e : En) (hown : OwnD Pt W w v l) (hx : SrcD Pt w x e) (hb : W.heap.size ≤ w.heap.size) (hlen : l.length ≤ 100000) (ty : TypeId) :
    ∃ v' w', (Builtin.append_ #[28, 28] ty #[v, x]).run Tryz.prog w = .ok v' w' ∧ OwnD Pt W w' v' (l ++ [e]) ∧ w.grownBy w' v.ownBlock := by
  obtain ⟨cs, ho, hc⟩ := hown
  obtain ⟨b, cc, u, rfl, k0, ku, k1⟩ := hx
  have hn : CellsD Pt [e] [u, .int .u64 (e.v : Nat)] := ⟨u, [], rfl, ku, rfl⟩
  obtain ⟨v', w', a1, a2, a3⟩ := run_append_src (P := Tryz.prog) w W.heap.size 28 ty 51 _ 2 32 Tryz.underlying28 entryInfo rfl (by omega) v l.length cs ho (.slice (some ⟨b, 0, none⟩) 1 cc) 1 [u, .int .u64 (e.v : Nat)]
    ⟨rfl, hn.oneCell hp, _, cc, rfl, (fun h => by cases h), fun ad had j x hj => by
      injection had with had; subst had
      match j with
      | 0 => simp at hj; subst hj; simpa [Addr.add] using k0
      | 1 => simp at hj; subst hj; simpa [Addr.add] using k1
      | j + 2 => simp at hj⟩ (by simp only [maxLen]; omega) (by omega) hb
  exact ⟨v', w', a1, ⟨_, by rw [List.length_append]; exact a2, hc.append hn⟩, a3⟩
theorem wpList_append_D {Pt : Value → List Nat → Prop} {w : World} {ops : Array Oper} {rest : List Oper} {o : Oper} {a : Act} {Q : Exit → Act → World → Prop} (hgd : o.guard = none) (s x : Operand)
    (ho : o.op = .call { callee := .builtin .append, args := #[s, x], argTypes := #[28, 28] }) (W : World) (l : List En) (e : En)
    (hp : ∀ u p, Pt u p → RdU w u (pti p)) (hown : OwnD Pt W w (a.eval s) l) (hx : SrcD Pt w (a.eval x) e) (hb : W.heap.size ≤ w.heap.size) (hlen : l.length ≤ 100000)
    (h : ∀ v' w', OwnD Pt W w' v' (l ++ [e]) → w.grownBy w' (a.eval s).ownBlock → wpList Tryz.prog ops Q rest (a.put o.dst v') w') : wpList Tryz.prog ops Q (o :: rest) a w := by
  refine wpList_plain hgd fun K hK => ?_
  obtain ⟨v', w', hrun, r1, r2⟩ := run_append_D W w hp _ _ l e hown hx hb hlen o.type
  unfold Oper.wp
  simp [execOp, ho, resolve, invoke, builtin, hrun, Result.andThen]
  exact hK _ _ (h v' w' r1 r2)
theorem OwnD.grown {Pt : Value → List Nat → Prop} {W w w' : World} {v : Value} {l : List En} (h : OwnD Pt W w v l) (hb : Below W.heap.size W w) (hg : w.grownBy w' v.ownBlock) : Below W.heap.size W w' :=
  hb.grown hg hb.size fun k hk => (h.block k hk).1
/-- a point in a row of numbers stays when a row of entries grows -/
theorem PtNew.grownD {Pt : Value → List Nat → Prop} {W w w' : World} {v : Value} {l : List En} (ho : OwnD Pt W w v l) (hg : w.grownBy w' v.ownBlock) : ∀ u p, PtNew w u p → PtNew w' u p := fun u p h =>
  h.keepBlock fun b cur fr hb => hg.block _ (lt_of_block hb) fun e => by
    obtain ⟨_, c2, h2⟩ := ho.block _ e.symm
    rw [hb] at h2
    injection h2 with h2
    injection h2 with _ h2 _
    revert h2; decide
end Go.Proofs.YtjokcagggmjgmaaGreat
/-! ThenG -/
namespace Go.Proofs.YtjokcagggmjgmaaGreat
open Go.RowKit
set_option linter.unusedVariables false
set_option linter.unusedSimpArgs false

theorem InvT.bel {W w : World} {B : Nat} {o : List Ch} (h : InvT W B o w) : Below W.heap.size W w := let ⟨_, _, _, h⟩ := h; h
theorem InvT.below {W w w' : World} {B : Nat} {o : List Ch} (h : InvT W B o w) (hB : B < w.heap.size) (hb : Below w.heap.size w w') : InvT W B o w' :=
  let ⟨vo, h1, h2, h3⟩ := h
  ⟨vo, (hb.block B hB).trans h1, (h2.below hb).mono fun u p h => h.below hb, h3.trans (hb.mono h3.size)⟩
end Go.Proofs.YtjokcagggmjgmaaGreat
/-! Pairs -/
namespace Go.Proofs.YtjokcagggmjgmaaGreat
open Go.RowKit
set_option linter.unusedVariables false
set_option linter.unusedSimpArgs false

theorem enters_func {P : Program} {f : FuncId} {fn : Func} (hf : P.funcs[f]? = some fn) (hname : (fn.name == "runtime.NumGoroutine") = false) (hb : fn.body.isSome = true) (args : Array Value) (w : World) :
    (callFunc f args).run P w = .ok (.enter f args) w := by
  have h1 : fn.name ≠ "runtime.NumGoroutine" := by simpa using hname
  obtain ⟨c, hc⟩ := Option.isSome_iff_exists.1 hb
  simp [callFunc, hf, h1, hc]
/-- at the label: so much is done -/
structure PairsAt (W : World) (T : Option Ch × Option Ch → Bool) (Inv : List (Option Ch × Option Ch) → World → Prop) (a b : List Ch) (wa wb : Value) (n : Nat) (la lb : List Ch) (d : List (Option Ch × Option Ch)) (w' : World) : Prop where
  ra : RdC W wa la ∧ CapOk wa
  rb : RdC W wb lb ∧ CapOk wb
  le : la.length + lb.length ≤ n
  eq' : pairs a b = d ++ pairsL n la lb
  all : d.all T = true
  inv : Inv d w'
  bel : Below W.heap.size W w'
  sa : ∀ x ∈ la, x ∈ a
  sb : ∀ y ∈ lb, y ∈ b
  len : d.length + (la.length + lb.length) ≤ a.length + b.length

section
variable {W w' : World} {T : Option Ch × Option Ch → Bool} {Inv : List (Option Ch × Option Ch) → World → Prop} {a b ta tb : List Ch} {x y : Ch} {wa wb : Value} {n : Nat} {d : List (Option Ch × Option Ch)}
theorem PairsAt.done (h : PairsAt W T Inv a b wa wb n [] [] d w') : pairs a b = d := by
  have := h.eq'
  cases n <;> simpa [pairsL] using this
theorem PairsAt.lt (h : PairsAt W T Inv a b wa wb n (x :: ta) (y :: tb) d w') (hz : Zb.cmp x.p y.p < 0) : ∃ m, ta.length + (tb.length + 1) ≤ m ∧ pairs a b = d ++ (some x, none) :: pairsL m ta (y :: tb) := by
  have := h.eq'
  have hle := h.le
  cases n with
  | zero => simp at hle
  | succ m => exact ⟨m, by simp at hle; omega, by rw [this, pairsL, if_pos hz]⟩
end
end Go.Proofs.YtjokcagggmjgmaaGreat
/-! WlkB -/
namespace Go.Proofs.YtjokcagggmjgmaaGreat
open Go.RowKit
set_option linter.unusedVariables false
set_option linter.unusedSimpArgs false
set_option maxRecDepth 100000

/-- so much has been gathered in the captured variable -/
def InvD (W : World) (B : Nat) (o : List En) (w : World) : Prop :=
  ∃ vo, w.heap[B]? = some (.cells #[vo] 28 (0, 0)) ∧ OwnD (PtNew w) W w vo o ∧ Below W.heap.size W w
theorem InvD.bel {W w : World} {B : Nat} {o : List En} (h : InvD W B o w) : Below W.heap.size W w := let ⟨_, _, _, h⟩ := h; h
theorem InvD.below {W w w' : World} {B : Nat} {o : List En} (h : InvD W B o w) (hb : Below w.heap.size w w') : InvD W B o w' :=
  let ⟨vo, h1, h2, h3⟩ := h
  ⟨vo, (hb.block B (lt_of_block h1)).trans h1, (h2.below hb).mono fun u p h => h.below hb, h3.trans (hb.mono h3.size)⟩
theorem InvD.push {W w3 w4 : World} {B : Nat} {vo v' : Value} {o o' : List En} (hB : W.heap.size ≤ B) (hblk : w3.heap[B]? = some (.cells #[vo] 28 (0, 0))) (hown : OwnD (PtNew w3) W w3 vo o) (hb : Below W.heap.size W w3)
    (hown' : OwnD (PtNew w3) W w4 v' o') (hg : w3.grownBy w4 vo.ownBlock) : w4.heap[B]? = some (.cells #[vo] 28 (0, 0)) ∧ InvD W B o' (w4.setCell ⟨B, 0, none⟩ v') := by
  have hneB : some B ≠ vo.ownBlock := by
    intro e
    obtain ⟨_, cur, hc⟩ := hown.block B e.symm
    rw [hblk] at hc
    injection hc with hc
    injection hc with _ hc _
    exact absurd hc (by decide)
  have h4 : w4.heap[B]? = some (.cells #[vo] 28 (0, 0)) := (hg.block B (lt_of_block hblk) hneB).trans hblk
  have hneB' : v'.ownBlock ≠ some B := by
    intro e
    obtain ⟨_, cur, hc⟩ := hown'.block B e
    rw [h4] at hc
    injection hc with hc
    injection hc with _ hc _
    exact absurd hc (by decide)
  refine ⟨h4, v', one_setCell h4, ?_, ?_⟩
  · obtain ⟨cs, ho, hc⟩ := hown'
    refine ⟨cs, ownsRow_setCell_other ho hneB' _, hc.mono fun u p hp => ?_⟩
    have hp4 : PtNew w4 u p := PtNew.grownD hown hg u p hp
    exact hp4.keepBlock fun b cur fr hbk => by
      refine Below.heap_setCell _ _ _ _ ?_
      intro e
      have e' : b = B := e
      rw [e', h4] at hbk
      injection hbk with hbk
      injection hbk with _ hbk _
      exact absurd hbk (by decide)
  · exact (hb.grown hg hb.size fun k hk => (hown.block k hk).1).setCell hB _
set_option maxHeartbeats 1000000 in
theorem allTell (W w : World) (B : Nat) (o : List En) (e : En) (u : Value) (hW : W.heap.size ≤ B) (hi : InvD W B o w) (hu : PtNew w u e.p) (hol : o.length ≤ 10000) :
    Calls Tryz.prog 138 (#[.agg #[u, .int .u64 (e.v : Nat)]] ++ #[.pointer (some ⟨B, 0, none⟩)]) w fun r w' => r = .returned (.bool true) ∧ InvD W B (o ++ [e]) w' ∧ Below W.heap.size W w' := by
  obtain ⟨vo, hblk, hown, hbW⟩ := hi
  have kb := cell_of_one hblk
  have hlB := lt_of_block hblk
  have HI := Lib.hid (And.intro hblk (And.intro hown (And.intro hbW (And.intro hW (And.intro hol hu)))))
  obtain ⟨Au, cu, rfl, _⟩ := RdU.point hu.rd
  obtain ⟨Ao, co, rfl⟩ := hown.shape
  obtain ⟨p, x⟩ := e
  clear hblk hown hbW hW hol hu
  show Calls Tryz.prog 138 #[.agg #[.slice Au p.length cu, .int .u64 (x : Nat)], .pointer (some ⟨B, 0, none⟩)] w _
  go_enter Tryz.func138, Tryz.ntmps138
  go_wp2_with ((at_builtin; refine wpList_append_D (Pt := PtNew w) rfl (.tmp 4) (.tmp 6) rfl W o ⟨p, x⟩ ?_ ?_ ?_ ?_ ?_ ?_))
  · exact fun u p h => h.rd.below (by repeat (first | exact Below.refl _ _ | (refine Below.drew ?_) | (refine below_drewN' ?_ _) | (refine below_alloc' ?_ _) | (refine Below.setCell ?_ (by first | exact Nat.le_refl _ | (simp; done) | (simp; omega)) _)))
  · exact HI.out.2.1.below (by repeat (first | exact Below.refl _ _ | (refine Below.drew ?_) | (refine below_drewN' ?_ _) | (refine below_alloc' ?_ _) | (refine Below.setCell ?_ (by first | exact Nat.le_refl _ | (simp; done) | (simp; omega)) _)))
  · exact ⟨_, _, _, rfl, by simp [go_sem], HI.out.2.2.2.2.2, by simp [go_sem]⟩
  · have := HI.out.2.2.1.size; simp; omega
  · have := HI.out.2.2.2.2.1; omega
  intro v' w4 hown4 hg4
  obtain ⟨A4, c4, rfl⟩ := hown4.shape
  have hbe : Below w.heap.size w ((w.alloc (.cells #[.slice Au p.length cu, .int .u64 (x : Nat)] 51)).alloc (.cells #[.slice Au p.length cu, .int .u64 (x : Nat)] 51)) := (by repeat (first | exact Below.refl _ _ | (refine Below.drew ?_) | (refine below_drewN' ?_ _) | (refine below_alloc' ?_ _) | (refine Below.setCell ?_ (by first | exact Nat.le_refl _ | (simp; done) | (simp; omega)) _)))
  obtain ⟨hb6, hI6⟩ := InvD.push HI.out.2.2.2.1 ((hbe.block B hlB).trans HI.out.1) ((HI.out.2.1.below hbe).mono fun u p h => h.below hbe) (HI.out.2.2.1.trans (hbe.mono HI.out.2.2.1.size)) (hown4.mono fun u p h => h.below hbe) hg4
  have c6 := cell_of_one hb6
  have f6 := free_of_one hb6
  have hl6 := lt_of_block hb6
  have HI6 := Lib.hid hI6
  clear hown4 hg4 hb6 hI6 hbe kb hlB
  go_wp2_with fail
  go_ret
  exact ⟨rfl, by simpa using HI6.out, by simpa using HI6.out.bel⟩
theorem allFn (W : World) (B N : Nat) (hW : W.heap.size ≤ B) (hN : N ≤ 10000) : Tell W 138 #[.pointer (some ⟨B, 0, none⟩)] N (InvD W B) :=
  ⟨enters_func (Tryz.func138) (by kernel_rfl) (by kernel_rfl), fun d e u w' hd hi hb hu => allTell W w' B d e u hW hi hu (by omega), fun d w' w'' h hb => h.below hb⟩
def AllP (W : World) (l : List En) (e : Ending) (w' : World) : Prop := ∃ v, e = .returned v ∧ OwnD (PtNew w') W w' v l ∧ Below W.heap.size W w'
theorem wall_any (w : World) (k : Nat) (r : Option Nat) (l : List En) (hr : RtN w k r l) (k1 : 1 ≤ k) (k16 : k ≤ 16) (hl : l.length ≤ 10000) : Calls Tryz.prog 80 #[pv r] w fun e w' => AllP w l e w' := by
  have HE := Lib.hid (show ∀ w', InvD w w.heap.size [] w' → Calls Tryz.prog 137 #[pv r, .func (.func 138) #[] #[.pointer (some ⟨w.heap.size, 0, none⟩)]] w' fun e w'' => EachP w (InvD w w.heap.size) l e w'' from fun w' hi => by
    cases r with
    | none =>
      obtain rfl : l = [] := hr
      exact (each_nil w' _ _).mono fun e w'' ⟨h1, h2⟩ => ⟨h1, h2 ▸ hi, h2 ▸ hi.bel⟩
    | some b => exact each_nd w _ _ l.length k _ (allFn w _ l.length (Nat.le_refl _) hl) k1 k16 hr w' [] hi hi.bel (by simp))
  have H0 := Lib.hid (show InvD w w.heap.size [] (w.alloc (.cells #[.slice none 0 0] 28)) from ⟨_, alloc_blk _ _, OwnD.nil _ _ _, (by repeat (first | exact Below.refl _ _ | (refine Below.drew ?_) | (refine below_drewN' ?_ _) | (refine below_alloc' ?_ _) | (refine Below.setCell ?_ (by first | exact Nat.le_refl _ | (simp; done) | (simp; omega)) _)))⟩)
  obtain ⟨q, hq⟩ := pv_ex r
  rw [hq] at HE ⊢
  clear hr hl hq k1 k16
  go_enter Tryz.func80, Tryz.ntmps80
  go_wp2_with fail
  refine (HE.out _ H0.out).mono ?_
  rintro e w1 ⟨rfl, ⟨vo, hblk, hown, hb⟩, _⟩
  have HF := Lib.hid (And.intro hown hb)
  have kb := cell_of_one hblk
  have hl := lt_of_block hblk
  clear hown hb hblk H0
  go_wp2_with fail
  go_ret
  exact ⟨_, rfl, HF.out⟩
end Go.Proofs.YtjokcagggmjgmaaGreat
/-! RowD -/
namespace Go.Proofs.YtjokcagggmjgmaaGreat
open Go.RowKit
set_option linter.unusedVariables false

/-- the row at block g, with room for n, holds the entries l; their points lie in rows of numbers -/
structure RowD (W0 w : World) (g n : Nat) (l : List En) : Prop where
  cells : ∃ cur, w.heap[g]? = some (.cells cur 51 (0, 0)) ∧ cur.size = n * 2 ∧ ∀ j (h : j < l.length), ∃ u, cur[j * 2]? = some u ∧ PtNew w u l[j].p ∧ cur[j * 2 + 1]? = some (.int .u64 (l[j].v : Nat))
  le : l.length ≤ n ∧ n ≤ maxLen
  low : W0.heap.size ≤ g
  bel : Below W0.heap.size W0 w
theorem OwnD.row {W w : World} {v : Value} {l : List En} (h : OwnD (PtNew w) W w v l) (hb : Below W.heap.size W w) (hne : l ≠ []) : ∃ g n, v = .slice (some ⟨g, 0, none⟩) l.length n ∧ RowD W w g n l := by
  obtain ⟨g, cap, cur, rfl, q2, q3, q4, q5, q6, q7⟩ := h.cells hne
  exact ⟨g, cap, rfl, ⟨cur, q3, q6, q7⟩, ⟨q4, q5⟩, q2, hb⟩
theorem RowD.lt {W0 w : World} {g n : Nat} {l : List En} (h : RowD W0 w g n l) : g < w.heap.size := by
  obtain ⟨cur, h1, _⟩ := h.cells
  exact kr_lt h1
theorem RowD.at' {W0 w : World} {g n : Nat} {l : List En} (h : RowD W0 w g n l) (j : Nat) (hj : j < l.length) : ∃ u, w.cell? ⟨g, j * 2, none⟩ = some u ∧ PtNew w u l[j].p ∧ w.cell? ⟨g, j * 2 + 1, none⟩ = some (.int .u64 (l[j].v : Nat)) := by
  obtain ⟨cur, h1, h2, h3⟩ := h.cells
  obtain ⟨u, a, b, c⟩ := h3 j hj
  exact ⟨u, by simp [World.cell?, h1, a], b, by simp [World.cell?, h1, c]⟩
theorem RowD.step {W0 w w' : World} {g n : Nat} {l : List En} (h : RowD W0 w g n l) (hb : Below w.heap.size w w') : RowD W0 w' g n l := by
  obtain ⟨cur, h1, h2, h3⟩ := h.cells
  exact ⟨⟨cur, (hb.block g h.lt).trans h1, h2, fun j hj => let ⟨u, a, b, c⟩ := h3 j hj; ⟨u, a, b.below hb, c⟩⟩, h.le, h.low, h.bel.trans (hb.mono h.bel.size)⟩
theorem RowD.rd {W0 w : World} {g n : Nat} {l : List En} (h : RowD W0 w g n l) : RdE w (.slice (some ⟨g, 0, none⟩) l.length n) l :=
  ⟨_, _, rfl, ⟨h.le.1, h.le.2, fun _ => ⟨_, _, rfl⟩⟩, fun _ => ⟨g, 0, rfl, fun j hj => by
    obtain ⟨u, a, b, c⟩ := h.at' j hj
    exact ⟨u, by simpa using a, b.rd, by simpa using c⟩⟩⟩
end Go.Proofs.YtjokcagggmjgmaaGreat
/-! MapP -/
namespace Go.Proofs.YtjokcagggmjgmaaGreat
open Go.RowKit
set_option linter.unusedVariables false

end Go.Proofs.YtjokcagggmjgmaaGreat
/-! MapA -/
namespace Go.Proofs.YtjokcagggmjgmaaGreat
open Go.RowKit
set_option linter.unusedVariables false
set_option linter.unusedSimpArgs false
set_option maxRecDepth 100000

end Go.Proofs.YtjokcagggmjgmaaGreat
/-! MapB -/
namespace Go.Proofs.YtjokcagggmjgmaaGreat
open Go.RowKit
set_option linter.unusedVariables false
set_option linter.unusedSimpArgs false
set_option maxRecDepth 100000

end Go.Proofs.YtjokcagggmjgmaaGreat
/-! SomA -/
namespace Go.Proofs.YtjokcagggmjgmaaGreat
open Go.RowKit
set_option linter.unusedVariables false
set_option linter.unusedSimpArgs false
set_option maxRecDepth 100000

end Go.Proofs.YtjokcagggmjgmaaGreat
/-! SomB -/
namespace Go.Proofs.YtjokcagggmjgmaaGreat
open Go.RowKit
set_option linter.unusedVariables false
set_option linter.unusedSimpArgs false
set_option maxRecDepth 100000

end Go.Proofs.YtjokcagggmjgmaaGreat
/-! NdE -/
namespace Go.Proofs.YtjokcagggmjgmaaGreat
open Go.RowKit
set_option linter.unusedVariables false
set_option maxRecDepth 100000

theorem nodeInfo : ∃ j, Tryz.prog.info? 174 = some j ∧ j.size ≠ 0 := by
  have h : (Tryz.prog.info? 174).map (fun i => i.size) = some 8 := by kernel_rfl
  cases e : Tryz.prog.info? 174 with
  | none => rw [e] at h; cases h
  | some j =>
    rw [e] at h
    have h : j.size = 8 := by simpa using h
    exact ⟨j, rfl, by omega⟩
theorem nodeUnder : Tryz.prog.underlying 103 = some (.pointer 174) := by kernel_rfl
theorem node_same (w : World) (g : Nat) : (binOp .eql 103 (.pointer (some ⟨g, 0, none⟩)) (.pointer (some ⟨g, 0, none⟩))).run Tryz.prog w = .ok (.bool true) w := by
  obtain ⟨j, hj, _⟩ := nodeInfo
  exact run_eql_ptr_same w _ nodeUnder hj
theorem node_other {w : World} {g t k k' : Nat} {l l' : List En} (hg : Nd w k g l) (ht : Nd w k' t l') (hne : g ≠ t) : (binOp .eql 103 (.pointer (some ⟨g, 0, none⟩)) (.pointer (some ⟨t, 0, none⟩))).run Tryz.prog w = .ok (.bool false) w := by
  obtain ⟨v1, p1, q1⟩ := hg.hd
  obtain ⟨v2, p2, q2⟩ := ht.hd
  obtain ⟨c1, h1⟩ := q1.blk
  obtain ⟨c2, h2⟩ := q2.blk
  obtain ⟨j, hj, hsz⟩ := nodeInfo
  exact run_eql_ptr_other w nodeUnder hj hsz (by intro h; injection h with h; exact hne h) h1 h2
theorem root_eql {w : World} {k k' : Nat} {r r' : Option Nat} {l l' : List En} (h : RtN w k r l) (h' : RtN w k' r' l') : (binOp .eql 103 (pv r) (pv r')).run Tryz.prog w = .ok (.bool (decide (r = r'))) w := by
  cases r with
  | none =>
    cases r' with
    | none => rfl
    | some b => rfl
  | some a =>
    cases r' with
    | none => rfl
    | some b =>
      by_cases e : a = b
      · subst e
        rw [decide_eq_true rfl]
        exact node_same w a
      · rw [decide_eq_false (by intro h; injection h with h; exact e h)]
        exact node_other h h' e
end Go.Proofs.YtjokcagggmjgmaaGreat
/-! SomC -/
namespace Go.Proofs.YtjokcagggmjgmaaGreat
open Go.RowKit
set_option linter.unusedVariables false
set_option linter.unusedSimpArgs false
set_option maxRecDepth 100000

end Go.Proofs.YtjokcagggmjgmaaGreat
/-! RefM -/
namespace Go.Proofs.YtjokcagggmjgmaaGreat
open Go.RowKit
set_option linter.unusedVariables false
set_option linter.unusedSimpArgs false
set_option maxRecDepth 100000

end Go.Proofs.YtjokcagggmjgmaaGreat
/-! LawMaps -/
namespace Go.Proofs.YtjokcagggmjgmaaGreat
open Go.RowKit
set_option linter.unusedVariables false
set_option linter.unusedSimpArgs false
set_option maxRecDepth 100000

theorem Nd.vlt {w : World} {k b : Nat} {l : List En} (h : Nd w k b l) : ∀ e ∈ l, e.v < 2 ^ 64 := by
  induction h with
  | leaf b p v h hp ho hv =>
    intro e he
    obtain rfl : e = ⟨p, v⟩ := by simpa using he
    exact hv
  | node b s n pre ks h hs hkd hn ih =>
    intro e he
    obtain ⟨x, hx, he⟩ := mem_cat.1 he
    obtain ⟨y, hy, rfl⟩ := List.mem_map.1 hx
    exact ih y hy e he
theorem TrR.vlt {w : World} {k t : Nat} {l : List En} (h : TrR w t k l) : ∀ e ∈ l, e.v < 2 ^ 64 := by
  obtain ⟨r, _, h2⟩ := h.c1
  cases r with
  | none => obtain rfl : l = [] := h2; intro e he; simp at he
  | some b => exact Nd.vlt h2
end Go.Proofs.YtjokcagggmjgmaaGreat
/-! DifP -/
namespace Go.Proofs.YtjokcagggmjgmaaGreat
open Go.RowKit
set_option linter.unusedVariables false

def goneC (e : En) : Ch := ⟨e.p, true, false, e.v, 0⟩
def comeC (e : En) : Ch := ⟨e.p, false, true, 0, e.v⟩
def chgE : Option En → Option En → Option Ch
  | none, none => none
  | some x, none => some (goneC x)
  | none, some y => some (comeC y)
  | some x, some y => if x.v = y.v then none else some ⟨x.p, true, true, x.v, y.v⟩
theorem Et.look_p {k : Nat} {l : List En} (h : Et k l) {n : Nat} {x : En} (hx : Od.look En.key l n = some x) {p : List Nat} (hp : p.length = k) (ho : ∀ c ∈ p, c < 2 ^ 64) (hn : pkey p = n) : x.p = p := by
  obtain ⟨h1, h2⟩ := Od.look_some hx
  exact key_pt h hp ho h1 (by rw [h2, hn])
theorem chg_look {k : Nat} {a b : List En} (ha : Et k a) (hb : Et k b) (n : Nat) : Od.look Ch.key (changesL a b) n = chgE (Od.look En.key a n) (Od.look En.key b n) := by
  obtain ⟨_, h2⟩ := changesL_spec ha hb
  obtain ⟨p1, p2⟩ := pointsL_spec hb a ha
  have hi := p2 n
  rw [h2 n]
  cases e : Od.look En.key (pointsL a b) n with
  | none =>
    rw [e] at hi
    cases ea : Od.look En.key a n with
    | some x => rw [ea] at hi; simp at hi
    | none =>
      cases eb : Od.look En.key b n with
      | some y => rw [ea, eb] at hi; simp at hi
      | none => rfl
  | some z =>
    rw [e] at hi
    obtain ⟨hz1, hz2⟩ := Od.look_some e
    have hzk : pkey z.p = n := hz2
    have hzl := p1.len z hz1
    have hzo := p1.ok z hz1
    show changeL a b z.p = _
    unfold changeL getE
    rw [hzk]
    cases ea : Od.look En.key a n with
    | none =>
      cases eb : Od.look En.key b n with
      | none => rw [ea, eb] at hi; simp at hi
      | some y =>
        have e1 := hb.look_p eb hzl hzo hzk
        simp [changeOf, chgE, comeC, e1]
    | some x =>
      have e1 := ha.look_p ea hzl hzo hzk
      cases eb : Od.look En.key b n with
      | none => simp [changeOf, chgE, goneC, e1]
      | some y =>
        simp only [changeOf, chgE, Option.map_some, Option.isSome_some, Option.getD_some, e1]
        by_cases hv : x.v = y.v
        · simp [hv]
        · rw [if_neg hv, if_pos (by simp; omega)]
theorem chg_asc {k : Nat} {a b : List En} (ha : Et k a) (hb : Et k b) : Od.Asc Ch.key (changesL a b) := (changesL_spec ha hb).1
theorem look_append {α : Type} (key : α → Nat) (l m : List α) (n : Nat) : Od.look key (l ++ m) n = (Od.look key l n).or (Od.look key m n) := List.find?_append
theorem look_map' {α β : Type} {key : α → Nat} {key' : β → Nat} (f : α → β) (h : ∀ x, key' (f x) = key x) (l : List α) (n : Nat) : Od.look key' (l.map f) n = (Od.look key l n).map f := by
  induction l with
  | nil => rfl
  | cons x l ih =>
    rw [List.map_cons, Od.look_cons, Od.look_cons, h, ih]
    split <;> rfl
theorem asc_map {α β : Type} {key : α → Nat} {key' : β → Nat} (f : α → β) (h : ∀ x, key' (f x) = key x) {l : List α} (hl : Od.Asc key l) : Od.Asc key' (l.map f) := by
  unfold Od.Asc
  rw [List.pairwise_map]
  exact hl.imp fun {a b} hab => by rw [h, h]; exact hab
theorem chg_gone {k : Nat} {a : List En} (ha : Et k a) : changesL a [] = a.map goneC := by
  refine Od.ext (key := Ch.key) (chg_asc ha (Et.nil k)) (asc_map goneC (fun _ => rfl) ha.asc) fun n => ?_
  rw [chg_look ha (Et.nil k), look_map' goneC (key := En.key) (fun _ => rfl)]
  cases Od.look En.key a n <;> rfl
theorem chg_come {k : Nat} {b : List En} (hb : Et k b) : changesL [] b = b.map comeC := by
  refine Od.ext (key := Ch.key) (chg_asc (Et.nil k) hb) (asc_map comeC (fun _ => rfl) hb.asc) fun n => ?_
  rw [chg_look (Et.nil k) hb, look_map' comeC (key := En.key) (fun _ => rfl)]
  cases Od.look En.key b n <;> rfl
theorem chg_self {k : Nat} {a : List En} (ha : Et k a) : changesL a a = [] := by
  refine Od.ext (key := Ch.key) (chg_asc ha ha) List.Pairwise.nil fun n => ?_
  rw [chg_look ha ha]
  cases Od.look En.key a n with
  | none => rfl
  | some x => simp [chgE, Od.look_nil]
theorem chg_mem {k : Nat} {a b : List En} (ha : Et k a) (hb : Et k b) {c : Ch} (hc : c ∈ changesL a b) : (∃ x ∈ a, x.key = c.key) ∨ (∃ y ∈ b, y.key = c.key) := by
  have h := Od.look_mem (key := Ch.key) (chg_asc ha hb) hc
  rw [chg_look ha hb] at h
  cases ea : Od.look En.key a c.key with
  | some x => exact .inl ⟨x, (Od.look_some ea).1, (Od.look_some ea).2⟩
  | none =>
    cases eb : Od.look En.key b c.key with
    | some y => exact .inr ⟨y, (Od.look_some eb).1, (Od.look_some eb).2⟩
    | none => rw [ea, eb] at h; cases h
/-- all of the first two lie ahead of all of the other two -/
def Ahead (a b : List En) : Prop := ∀ x ∈ a, ∀ y ∈ b, x.key < y.key
theorem Et.app {k : Nat} {a b : List En} (ha : Et k a) (hb : Et k b) (h : Ahead a b) : Et k (a ++ b) :=
  ⟨List.pairwise_append.2 ⟨ha.asc, hb.asc, h⟩, fun e he => (List.mem_append.1 he).elim (ha.len e) (hb.len e), fun e he => (List.mem_append.1 he).elim (ha.ok e) (hb.ok e)⟩
theorem chg_append {k : Nat} {a1 a2 b1 b2 : List En} (h1 : Et k a1) (h2 : Et k a2) (h3 : Et k b1) (h4 : Et k b2) (x1 : Ahead a1 a2) (x2 : Ahead a1 b2) (x3 : Ahead b1 a2) (x4 : Ahead b1 b2) :
    changesL (a1 ++ a2) (b1 ++ b2) = changesL a1 b1 ++ changesL a2 b2 := by
  have ea := h1.app h2 x1
  have eb := h3.app h4 x4
  refine Od.ext (key := Ch.key) (chg_asc ea eb) (List.pairwise_append.2 ⟨chg_asc h1 h3, chg_asc h2 h4, fun c hc d hd => ?_⟩) fun n => ?_
  · rcases chg_mem h1 h3 hc with ⟨x, hx, ex⟩ | ⟨x, hx, ex⟩ <;> rcases chg_mem h2 h4 hd with ⟨y, hy, ey⟩ | ⟨y, hy, ey⟩
    · have := x1 x hx y hy; omega
    · have := x2 x hx y hy; omega
    · have := x3 x hx y hy; omega
    · have := x4 x hx y hy; omega
  · rw [chg_look ea eb, look_append, look_append, look_append, chg_look h1 h3, chg_look h2 h4]
    have key : ∀ {l m : List En}, Ahead l m → ∀ {x}, Od.look En.key l n = some x → Od.look En.key m n = none := fun hlm x hx => by
      obtain ⟨q1, q2⟩ := Od.look_some hx
      exact Od.look_eq_none fun y hy => by have := hlm x q1 y hy; omega
    cases e1 : Od.look En.key a1 n with
    | some x =>
      rw [key x1 e1, key x2 e1]
      cases e3 : Od.look En.key b1 n with
      | some y => show chgE (some x) (some y) = (chgE (some x) (some y)).or none; rw [Option.or_none]
      | none => rfl
    | none =>
      cases e3 : Od.look En.key b1 n with
      | some y => rw [key x3 e3, key x4 e3]; rfl
      | none => rfl
theorem Ahead.nil_l (b : List En) : Ahead [] b := fun x hx => by simp at hx
theorem Ahead.nil_r (a : List En) : Ahead a [] := fun x _ y hy => by simp at hy
theorem chg_before {k : Nat} {a b : List En} (ha : Et k a) (hb : Et k b) (h : Ahead a b) : changesL a b = a.map goneC ++ b.map comeC := by
  have := chg_append ha (Et.nil k) (Et.nil k) hb (Ahead.nil_r a) h (Ahead.nil_l _) (Ahead.nil_l _)
  rw [List.append_nil, List.nil_append, chg_gone ha, chg_come hb] at this
  exact this
theorem chg_behind {k : Nat} {a b : List En} (ha : Et k a) (hb : Et k b) (h : Ahead b a) : changesL a b = b.map comeC ++ a.map goneC := by
  have := chg_append (Et.nil k) ha hb (Et.nil k) (Ahead.nil_l _) (Ahead.nil_l _) h (Ahead.nil_r b)
  rw [List.append_nil, List.nil_append, chg_gone ha, chg_come hb] at this
  exact this
theorem changes_len {k : Nat} {a b : List En} (ha : Et k a) (hb : Et k b) : (changesL a b).length ≤ a.length + b.length := by
  have h1 : (pointsL a b).length ≤ a.length + b.length := by
    have key : ∀ (b a : List En), (pointsL a b).length ≤ a.length + b.length := by
      intro b
      induction b with
      | nil => intro a; exact Nat.le_refl _
      | cons e b ih =>
        intro a
        unfold pointsL
        refine Nat.le_trans (ih _) ?_
        have : (insE e.p 0 a).length ≤ a.length + 1 := Od.ins_length
        simp only [List.length_cons]
        omega
    exact key b a
  exact Nat.le_trans (List.length_filterMap_le _ _) h1
end Go.Proofs.YtjokcagggmjgmaaGreat
/-! DifA -/
namespace Go.Proofs.YtjokcagggmjgmaaGreat
open Go.RowKit
set_option linter.unusedVariables false
set_option linter.unusedSimpArgs false
set_option maxRecDepth 100000

/-- what lies in blocks stays, but for one block and the rows of changes -/
structure Kp (B : Nat) (w w' : World) : Prop where
  size : w.heap.size ≤ w'.heap.size
  keep : ∀ b cur t fr, w.heap[b]? = some (.cells cur t fr) → b ≠ B → t ≠ 83 → w'.heap[b]? = some (.cells cur t fr)
theorem Kp.refl (B : Nat) (w : World) : Kp B w w := ⟨Nat.le_refl _, fun b cur t fr h _ _ => h⟩
theorem Kp.trans {B : Nat} {w w' w'' : World} (h : Kp B w w') (g : Kp B w' w'') : Kp B w w'' := ⟨Nat.le_trans h.size g.size, fun b cur t fr q1 q2 q3 => g.keep b cur t fr (h.keep b cur t fr q1 q2 q3) q2 q3⟩
theorem Kp.of {B : Nat} {w w' : World} (h : Below w.heap.size w w') : Kp B w w' := ⟨h.size, fun b cur t fr q1 _ _ => (h.block b (lt_of_block q1)).trans q1⟩
theorem Kp.ptNew {B : Nat} {w w' : World} (h : Kp B w w') (hB : ∃ vo, w.heap[B]? = some (.cells #[vo] 23 (0, 0))) {u : Value} {p : List Nat} (hu : PtNew w u p) : PtNew w' u p :=
  hu.keepBlock fun b cur fr hb => (h.keep b cur _ fr hb (fun e => by
    subst e
    obtain ⟨vo, h1⟩ := hB
    rw [hb] at h1
    injection h1 with h1
    injection h1 with _ h1 _
    revert h1; decide) (by decide)).trans hb.symm
theorem InvT.blkB {W w : World} {B : Nat} {o : List Ch} (h : InvT W B o w) : ∃ vo, w.heap[B]? = some (.cells #[vo] 23 (0, 0)) := let ⟨vo, h1, _⟩ := h; ⟨vo, h1⟩
theorem InvT.step {W w w' : World} {B : Nat} {o : List Ch} (h : InvT W B o w) (hb : Below w.heap.size w w') : InvT W B o w' := h.below (let ⟨_, h1⟩ := h.blkB; lt_of_block h1) hb
theorem Kp.ownD {B : Nat} {W w w' : World} (h : Kp B w w') (hB : ∃ vo, w.heap[B]? = some (.cells #[vo] 23 (0, 0))) {v : Value} {l : List En} (hv : OwnD (PtNew w) W w v l) : OwnD (PtNew w') W w' v l := by
  obtain ⟨cs, ⟨h1, h2⟩, h3⟩ := hv
  refine ⟨cs, ⟨h1, ?_⟩, h3.mono fun u p hu => h.ptNew hB hu⟩
  rcases h2 with h2 | ⟨g, cap, cur, q1, q2, q3, q4⟩
  · exact .inl h2
  · refine .inr ⟨g, cap, cur, q1, q2, h.keep g cur _ _ q3 (fun e => ?_) (by decide), q4⟩
    subst e
    obtain ⟨vo, e1⟩ := hB
    rw [q3] at e1
    injection e1 with e1
    injection e1 with _ e1 _
    revert e1; decide
/-- a step of the lockstep: so much has been told -/
def StP (W : World) (B : Nat) (d : List Ch) (w : World) (e : Ending) (w' : World) : Prop := e = .returned (.tuple #[]) ∧ InvT W B d w' ∧ Kp B w w'
abbrev SV (B : Nat) : Value := .agg #[.func (.func 77) #[] #[.pointer (some ⟨B, 0, none⟩)]]
set_option maxHeartbeats 1000000 in
theorem dTell_any (W w : World) (B : Nat) (d : List Ch) (c : Ch) (u : Value) (hW : W.heap.size ≤ B) (hi : InvT W B d w) (hu : PtNew w u c.p) (hol : d.length ≤ 10000) :
    Calls Tryz.prog 77 #[AgC u c, .pointer (some ⟨B, 0, none⟩)] w fun e w' => StP W B (d ++ [c]) w e w' := by
  obtain ⟨vo, hblk, hown, hbW⟩ := hi
  have kb := cell_of_one hblk
  have hlB := lt_of_block hblk
  have HI := Lib.hid (And.intro hblk (And.intro hown (And.intro hbW (And.intro hW (And.intro hol hu)))))
  obtain ⟨Au, cu, rfl, _⟩ := RdU.point hu.rd
  obtain ⟨Ao, no, co, rfl⟩ := hown.shape
  obtain ⟨p, had, has, old, new⟩ := c
  clear hblk hown hbW hW hol hu
  simp only [AgC]
  go_enter Tryz.func77, Tryz.ntmps77
  go_wp2_with ((at_builtin; refine wpList_append_C (Pt := PtNew w) rfl (.tmp 3) (.tmp 5) rfl W d ⟨p, had, has, old, new⟩ ?_ ?_ ?_ ?_ ?_ ?_))
  · exact fun u p h => h.rd.below (by repeat (first | exact Below.refl _ _ | (refine Below.drew ?_) | (refine below_drewN' ?_ _) | (refine below_alloc' ?_ _) | (refine Below.setCell ?_ (by first | exact Nat.le_refl _ | (simp; done) | (simp; omega)) _)))
  · exact HI.out.2.1.below (by repeat (first | exact Below.refl _ _ | (refine Below.drew ?_) | (refine below_drewN' ?_ _) | (refine below_alloc' ?_ _) | (refine Below.setCell ?_ (by first | exact Nat.le_refl _ | (simp; done) | (simp; omega)) _)))
  · exact ⟨_, _, _, rfl, by simp [go_sem], HI.out.2.2.2.2.2, by simp [go_sem], by simp [go_sem], by simp [go_sem], by simp [go_sem]⟩
  · have := HI.out.2.2.1.size; simp; omega
  · have := HI.out.2.2.2.2.1; omega
  intro v' w4 hown4 hg4
  obtain ⟨A4, n4, c4, rfl⟩ := hown4.shape
  have hbe : Below w.heap.size w ((w.alloc (.cells #[.slice Au p.length cu, .bool had, .bool has, .int .u64 (old : Nat), .int .u64 (new : Nat)] 83)).alloc (.cells #[.slice Au p.length cu, .bool had, .bool has, .int .u64 (old : Nat), .int .u64 (new : Nat)] 83)) := (by repeat (first | exact Below.refl _ _ | (refine Below.drew ?_) | (refine below_drewN' ?_ _) | (refine below_alloc' ?_ _) | (refine Below.setCell ?_ (by first | exact Nat.le_refl _ | (simp; done) | (simp; omega)) _)))
  obtain ⟨hb6, hI6⟩ := InvT.push HI.out.2.2.2.1 ((hbe.block B hlB).trans HI.out.1) ((HI.out.2.1.below hbe).mono fun u p h => h.below hbe) (HI.out.2.2.1.trans (hbe.mono HI.out.2.2.1.size)) (hown4.mono fun u p h => h.below hbe) hg4
  have hkp : Kp B w (w4.setCell ⟨B, 0, none⟩ (.slice A4 n4 c4)) := (Kp.of hbe).trans ⟨by have h9 := hg4.size; simp at h9 ⊢; omega, fun b cur t fr h1 h2 h3 => by
    have e1 := hg4.block b (lt_of_block h1) (fun e => by
      obtain ⟨_, cur', hc'⟩ := HI.out.2.1.block b e.symm
      have := (hbe.block b (lt_of_block hc')).trans hc'
      rw [this] at h1
      injection h1 with h1
      injection h1 with _ h1 _
      exact h3 h1.symm)
    rw [Below.heap_setCell _ _ _ _ h2, e1, h1]⟩
  have c6 := cell_of_one hb6
  have f6 := free_of_one hb6
  have hl6 := lt_of_block hb6
  have HI6 := Lib.hid (And.intro hI6 hkp)
  clear hown4 hg4 hb6 hI6 hbe kb hlB hkp
  go_wp2_with fail
  go_end0
  exact ⟨rfl, HI6.out.1, HI6.out.2⟩
theorem come_any (w : World) (p : List Nat) (x : Nat) (u : Value) (hu : RdU w u (pti p)) :
    Calls Tryz.prog 125 #[.agg #[u, .int .u64 (x : Nat)]] w fun e w' => e = .returned (AgC u (comeC ⟨p, x⟩)) ∧ Below w.heap.size w w' := by
  obtain ⟨A, c, rfl, _⟩ := RdU.point hu
  go_enter Tryz.func125, Tryz.ntmps125
  go_wp2_with fail
  refine bodyPost_ret (v := AgC (.slice A p.length c) (comeC ⟨p, x⟩)) (by simp [results, Tryz.results125, go_sem, AgC, comeC]) rfl ⟨rfl, (by repeat (first | exact Below.refl _ _ | (refine Below.drew ?_) | (refine below_drewN' ?_ _) | (refine below_alloc' ?_ _) | (refine Below.setCell ?_ (by first | exact Nat.le_refl _ | (simp; done) | (simp; omega)) _)))⟩
theorem gone_any (w : World) (p : List Nat) (x : Nat) (u : Value) (hu : RdU w u (pti p)) :
    Calls Tryz.prog 126 #[.agg #[u, .int .u64 (x : Nat)]] w fun e w' => e = .returned (AgC u (goneC ⟨p, x⟩)) ∧ Below w.heap.size w w' := by
  obtain ⟨A, c, rfl, _⟩ := RdU.point hu
  go_enter Tryz.func126, Tryz.ntmps126
  go_wp2_with fail
  refine bodyPost_ret (v := AgC (.slice A p.length c) (goneC ⟨p, x⟩)) (by simp [results, Tryz.results126, go_sem, AgC, goneC]) rfl ⟨rfl, (by repeat (first | exact Below.refl _ _ | (refine Below.drew ?_) | (refine below_drewN' ?_ _) | (refine below_alloc' ?_ _) | (refine Below.setCell ?_ (by first | exact Nat.le_refl _ | (simp; done) | (simp; omega)) _)))⟩

/-- how an entry is told -/
def AsOk (f : FuncId) (g : En → Ch) : Prop := (∀ args w, (callFunc f args).run Tryz.prog w = .ok (.enter f args) w) ∧ (∀ e, (g e).p = e.p) ∧
  ∀ (w : World) (p : List Nat) (x : Nat) (u : Value), RdU w u (pti p) → Calls Tryz.prog f #[.agg #[u, .int .u64 (x : Nat)]] w fun e w' => e = .returned (AgC u (g ⟨p, x⟩)) ∧ Below w.heap.size w w'
theorem as_come : AsOk 125 comeC := ⟨enters_func (Tryz.func125) (by kernel_rfl) (by kernel_rfl), fun _ => rfl, fun w p x u hu => come_any w p x u hu⟩
theorem as_gone : AsOk 126 goneC := ⟨enters_func (Tryz.func126) (by kernel_rfl) (by kernel_rfl), fun _ => rfl, fun w p x u hu => gone_any w p x u hu⟩
end Go.Proofs.YtjokcagggmjgmaaGreat
/-! DifB -/
namespace Go.Proofs.YtjokcagggmjgmaaGreat
open Go.RowKit
set_option linter.unusedVariables false
set_option linter.unusedSimpArgs false
set_option maxRecDepth 100000

set_option maxHeartbeats 4000000 in
theorem dAll_any (W w : World) (B k : Nat) (r : Option Nat) (l : List En) (d : List Ch) (f : FuncId) (g : En → Ch) (hf : AsOk f g) (hW : W.heap.size ≤ B) (hr : RtN W k r l) (k1 : 1 ≤ k) (k16 : k ≤ 16) (hi : InvT W B d w) (hN : d.length + l.length ≤ 10000) :
    Calls Tryz.prog 124 #[SV B, pv r, .func (.func f) #[] #[]] w fun e w' => StP W B (d ++ l.map g) w e w' := by
  have hent := hf.1
  have htent := enters_func (Tryz.func77) (by kernel_rfl) (by kernel_rfl)
  have HF := Lib.hid hf
  have HI := Lib.hid (And.intro hi (And.intro hN hW))
  have hbx : Below w.heap.size w (w.alloc (.cells #[.func (.func 77) #[] #[.pointer (some ⟨B, 0, none⟩)]] 122)) := (by repeat (first | exact Below.refl _ _ | (refine Below.drew ?_) | (refine below_drewN' ?_ _) | (refine below_alloc' ?_ _) | (refine Below.setCell ?_ (by first | exact Nat.le_refl _ | (simp; done) | (simp; omega)) _)))
  have HBX := Lib.hid hbx
  have HWA := Lib.hid (wall_any (w.alloc (.cells #[.func (.func 77) #[] #[.pointer (some ⟨B, 0, none⟩)]] 122)) k r l (hr.below (hi.bel.trans (hbx.mono hi.bel.size))) k1 k16 (by omega))
  obtain ⟨q, hq⟩ := pv_ex r
  rw [hq] at HWA ⊢
  clear hf hr k1 k16 hi hN hW hq hbx
  go_enter Tryz.func124, Tryz.ntmps124
  go_wp2_with fail
  refine HWA.out.mono ?_
  rintro e w2 ⟨v, rfl, hown, hb2⟩
  have HO := Lib.hid hown
  have HK2 := Lib.hid (show Kp B w w2 from (Kp.of HBX.out).trans (Kp.of hb2))
  have HS2 := Lib.hid (show w2.heap[w.heap.size]? = some (.cells #[.func (.func 77) #[] #[.pointer (some ⟨B, 0, none⟩)]] 122 (0, 0)) from (hb2.block _ (by simp)).trans (alloc_blk _ _))
  have HI2 := Lib.hid (InvT.step (InvT.step HI.out.1 HBX.out) hb2)
  obtain ⟨sb, hsb⟩ : ∃ sb, w.heap.size = sb := ⟨_, rfl⟩
  have HSB := Lib.hid (show sb ≠ B from fun e => by
    have := lt_of_block (Exists.choose_spec (InvT.blkB HI.out.1))
    omega)
  rw [hsb] at HS2 ⊢
  obtain ⟨A2, c2, rfl⟩ := hown.shape
  clear hown hb2 HWA hsb
  go_wp2_with fail
  go_loopw [7, 11] (fun _ iv wr => ∃ j : Nat, j ≤ l.length ∧ iv = .int .i64 (j : Nat) ∧ InvT W B (d ++ (l.take j).map g) wr ∧ Kp B w2 wr) (fun _ iv _ => l.length - (intOf iv).toNat)
  case atStart => exact ⟨0, Nat.zero_le _, rfl, by simpa using HI2.out, Kp.refl _ _⟩
  case round =>
    obtain ⟨j, hj, rfl, hiv, hkp⟩ := hrel
    have HR := Lib.hid (And.intro hiv hkp)
    by_cases hlt : j < l.length
    · have h3 : (j : Int) < l.length := by omega
      have h5 : (0 : Int) ≤ (j : Int) := by omega
      have HW := Lib.hid (show wrap64 ((j : Int) + 1) = ((j + 1 : Nat) : Int) by have := HI.out.2.1; unfold wrap64; omega)
      have hown := hkp.ownD HI2.out.blkB HO.out
      obtain ⟨gr, cap, cur, ev, q2, q3, q4, q5, q6, q7⟩ := hown.cells (fun h => by rw [h] at hlt; simp at hlt)
      simp only [Value.slice.injEq] at ev
      obtain ⟨rfl, _, rfl⟩ := ev
      obtain ⟨u, r1, r2, r3⟩ := q7 j hlt
      have k0 : wr.cell? ⟨gr, j * 2, none⟩ = some u := by simp [World.cell?, q3, r1]
      have k1 : wr.cell? ⟨gr, j * 2 + 1, none⟩ = some (.int .u64 (l[j].v : Nat)) := by simp [World.cell?, q3, r3]
      have hgl := World.block_lt_of_cell? wr _ k0
      have hsblk := hkp.keep sb _ _ _ HS2.out HSB.out (by decide)
      have ks := cell_of_one hsblk
      have hsl := lt_of_block hsblk
      have HTK := Lib.hid (show (l.take (j + 1)).map g = (l.take j).map g ++ [g l[j]] by rw [← List.take_append_getElem hlt, List.map_append]; rfl)
      have HP := Lib.hid (show PtNew wr u (g l[j]).p from by rw [HF.out.2.1]; exact r2)
      have HAS := Lib.hid (fun (W1 : World) (hb : Below wr.heap.size wr W1) => HF.out.2.2 W1 l[j].p l[j].v u (r2.rd.below hb))
      have hgx : g l[j] = g ⟨l[j].p, l[j].v⟩ := rfl
      rw [hgx] at HTK HP
      have HLN := Lib.hid (show (d ++ (l.take j).map g).length ≤ 10000 from by rw [List.length_append, List.length_map, List.length_take]; have := HI.out.2.1; omega)
      have hsn : ¬ sb = wr.heap.size := by omega
      obtain ⟨A0, cc, rfl, _⟩ := RdU.point r2.rd
      generalize l[j].p = xp at *
      generalize l[j].v = xv at *
      clear hiv hkp hown q2 q3 q4 q5 q6 q7 r1 r2 r3 hsblk hgx
      go_wp2_with fail
      refine wp_region_vals 5 [fun z9 _ => z9 = .pointer (some ⟨sb, 0, none⟩),
        fun z9 _ => z9 = .func (.func 77) #[] #[.pointer (some ⟨B, 0, none⟩)],
        fun z9 _ => z9 = .func (.func f) #[] #[],
        fun z9 _ => z9 = .agg #[.slice A0 xp.length cc, .int .u64 (xv : Nat)],
        fun z9 _ => z9 = AgC (.slice A0 xp.length cc) (g ⟨xp, xv⟩)]
        (by kernel_rfl) (by kernel_rfl) (by kernel_rfl) (by kernel_rfl) ?_ ?_ ?_
      · intro V hV v w1 w2 h hb
        simp only [List.mem_cons, List.not_mem_nil, or_false] at hV
        rcases hV with rfl | rfl | rfl | rfl | rfl
        all_goals first | exact h | (exact h)
      · intro iq oq hiq hoq
        match iq, hiq with
        | 0, _ =>
        obtain rfl := Option.some.inj hoq
        intro a1 w1 K hk hK
        have e3 : a1.tmps.getD 3 undef = .pointer (some ⟨sb, 0, none⟩) := hk.same 3 (by simp)
        simp [Region.wanted, Oper.wp, Act.eval, go_sem, e3, ks, k0, k1, hent, hgl, hsl, hsn]
        exact hK _ _ (Below.refl _ _) rfl
        | 1, _ =>
        obtain rfl := Option.some.inj hoq
        intro a1 w1 K hk hK
        have d15 : a1.tmps.getD 15 undef = .pointer (some ⟨sb, 0, none⟩) := hk.deps ⟨0, .data⟩ (by simp) rfl _ _ rfl rfl
        have c0 : w1.cell? ⟨sb, 0, none⟩ = some (.func (.func 77) #[] #[.pointer (some ⟨B, 0, none⟩)]) := Below.keeps hk.ext _ _ (by simp [go_sem, ks, k0, k1, hent, hgl, hsl, hsn])
        have c1 : w1.cell? ⟨wr.heap.size, 0, none⟩ = some (.slice A0 xp.length cc) := Below.keeps hk.ext _ _ (by simp [go_sem, ks, k0, k1, hent, hgl, hsl, hsn])
        have c2 : w1.cell? ⟨wr.heap.size, 1, none⟩ = some (.int .u64 (xv : Nat)) := Below.keeps hk.ext _ _ (by simp [go_sem, ks, k0, k1, hent, hgl, hsl, hsn])
        simp [Region.wanted, Oper.wp, Act.eval, go_sem, d15, c0, c1, c2, ks, k0, k1, hent, hgl, hsl, hsn]
        exact hK _ _ (Below.refl _ _) rfl
        | 2, _ =>
        obtain rfl := Option.some.inj hoq
        intro a1 w1 K hk hK
        have e2 : a1.tmps.getD 2 undef = .func (.func f) #[] #[] := hk.same 2 (by simp)
        simp [Region.wanted, Oper.wp, Act.eval, go_sem, e2, ks, k0, k1, hent, hgl, hsl, hsn]
        exact hK _ _ (Below.refl _ _) rfl
        | 3, _ =>
        obtain rfl := Option.some.inj hoq
        intro a1 w1 K hk hK
        have e7 : a1.tmps.getD 7 undef = .pointer (some ⟨wr.heap.size, 0, none⟩) := hk.same 7 (by simp)
        have c0 : w1.cell? ⟨sb, 0, none⟩ = some (.func (.func 77) #[] #[.pointer (some ⟨B, 0, none⟩)]) := Below.keeps hk.ext _ _ (by simp [go_sem, ks, k0, k1, hent, hgl, hsl, hsn])
        have c1 : w1.cell? ⟨wr.heap.size, 0, none⟩ = some (.slice A0 xp.length cc) := Below.keeps hk.ext _ _ (by simp [go_sem, ks, k0, k1, hent, hgl, hsl, hsn])
        have c2 : w1.cell? ⟨wr.heap.size, 1, none⟩ = some (.int .u64 (xv : Nat)) := Below.keeps hk.ext _ _ (by simp [go_sem, ks, k0, k1, hent, hgl, hsl, hsn])
        simp [Region.wanted, Oper.wp, Act.eval, go_sem, e7, c0, c1, c2, ks, k0, k1, hent, hgl, hsl, hsn]
        exact hK _ _ (Below.refl _ _) rfl
        | 4, _ =>
        obtain rfl := Option.some.inj hoq
        intro a1 w1 K hk hK
        have d17 : a1.tmps.getD 17 undef = .func (.func f) #[] #[] := hk.deps ⟨2, .data⟩ (by simp) rfl _ _ rfl rfl
        have d18 : a1.tmps.getD 18 undef = .agg #[.slice A0 xp.length cc, .int .u64 (xv : Nat)] := hk.deps ⟨3, .data⟩ (by simp) rfl _ _ rfl rfl
        simp [Region.wanted, Oper.wp, Act.eval, go_sem, d17, d18, ks, k0, k1, hent, hgl, hsl, hsn]
        refine (HAS.out _ (below_trans (by repeat (first | exact Below.refl _ _ | (refine Below.drew ?_) | (refine below_drewN' ?_ _) | (refine below_alloc' ?_ _) | (refine Below.setCell ?_ (by first | exact Nat.le_refl _ | (simp; done) | (simp; omega)) _))) hk.ext)).mono ?_
        rintro e w9 ⟨rfl, hb9⟩
        exact hK _ _ hb9 rfl
      · intro vs w3 hl hb3 hv
        match vs, hl with
        | [v0, v1, v2, v3, v4], _ =>
        obtain rfl : v0 = .pointer (some ⟨sb, 0, none⟩) := hv 0 (by omega)
        obtain rfl : v1 = .func (.func 77) #[] #[.pointer (some ⟨B, 0, none⟩)] := hv 1 (by omega)
        obtain rfl : v2 = .func (.func f) #[] #[] := hv 2 (by omega)
        obtain rfl : v3 = .agg #[.slice A0 xp.length cc, .int .u64 (xv : Nat)] := hv 3 (by omega)
        obtain rfl : v4 = AgC (.slice A0 xp.length cc) (g ⟨xp, xv⟩) := hv 4 (by omega)
        clear hv
        simp only [putAll, List.take_succ_cons, List.take_zero, List.drop_succ_cons, List.drop_zero, Act.put, List.setIfInBounds_toArray, List.set_cons_succ, List.set_cons_zero]
        have hb4 : Below wr.heap.size wr w3 := below_trans (by repeat (first | exact Below.refl _ _ | (refine Below.drew ?_) | (refine below_drewN' ?_ _) | (refine below_alloc' ?_ _) | (refine Below.setCell ?_ (by first | exact Nat.le_refl _ | (simp; done) | (simp; omega)) _))) hb3
        have HD := Lib.hid (dTell_any W w3 B (d ++ (l.take j).map g) (g ⟨xp, xv⟩) _ HI.out.2.2 (HR.out.1.step hb4) (HP.out.below hb4) HLN.out)
        have HK4 := Lib.hid (HR.out.2.trans (Kp.of hb4))
        obtain ⟨gp, gh, gs, go, gn, hgc⟩ : ∃ a b c d e, g ⟨xp, xv⟩ = ⟨a, b, c, d, e⟩ := ⟨_, _, _, _, _, rfl⟩
        rw [hgc] at HD HTK ⊢
        simp only [AgC] at HD ⊢
        clear hb3 hb4 hgc k0 k1 ks hgl hsl
        go_wp2_with fail
        refine HD.out.mono ?_
        rintro e w5 ⟨rfl, hi5, hk5⟩
        have HF5 := Lib.hid (And.intro hi5 (HK4.out.trans hk5))
        clear hi5 hk5
        go_wp2_with fail
        go_roundw
        case rel => exact ⟨j + 1, by omega, (by first | rw [HW.out] | rfl | simp), by rw [HTK.out, ← List.append_assoc]; exact HF5.out.1, HF5.out.2⟩
        case measure => (first | (rw [intOf_of' HW.out, intOf_of' rfl]; omega) | (simp [intOf]; omega) | (simp [intOf] <;> omega))
    · have h3 : ¬ (j : Int) < (l.length : Int) := by omega
      have e : l.take j = l := List.take_of_length_le (by omega)
      rw [e] at HR
      clear hiv hkp e
      go_wp2_with fail
      go_end0
      exact ⟨rfl, HR.out.1, HK2.out.trans HR.out.2⟩
end Go.Proofs.YtjokcagggmjgmaaGreat
/-! DifQ -/
namespace Go.Proofs.YtjokcagggmjgmaaGreat
open Go.RowKit
set_option linter.unusedVariables false

theorem cut_cut2 {k : Nat} {p : List Nat} (ho : ∀ c ∈ p, c < 2 ^ 64) {m n : Nat} (h : m ≤ n) : Zb.cutN (Zb.cutN p m) n = Zb.cutN p n :=
  (Zb.cut_agree (Zb.cutN_length p m) (Zb.cutN_ok ho m) ho n).2 ((Zb.agree_cut p m).mono h)
/-- all lie below one address of one node -/
structure Below1 (k n : Nat) (pre : List Nat) (a : Nat) (l : List En) : Prop where
  et : Et k l
  n64 : n < 64
  pre : ∀ e ∈ l, Zb.cutN e.p (n + 1) = pre
  adr : ∀ e ∈ l, Zb.addr e.p n = a
theorem Below1.nil (k n : Nat) (pre : List Nat) (a : Nat) (hn : n < 64) : Below1 k n pre a [] := ⟨Et.nil k, hn, fun e he => (by cases he), fun e he => (by cases he)⟩
theorem Below1.ahead {k n a b : Nat} {pre : List Nat} {l m : List En} (h : Below1 k n pre a l) (g : Below1 k n pre b m) (hab : a < b) : Ahead l m := fun x hx y hy => by
  refine pkey_lt (by rw [h.et.len x hx, g.et.len y hy]) h.n64 ?_ (by rw [h.adr x hx, g.adr y hy]; exact hab)
  exact (Zb.cut_agree (by rw [h.et.len x hx, g.et.len y hy]) (h.et.ok x hx) (g.et.ok y hy) _).1 (by rw [h.pre x hx, g.pre y hy])
theorem Kd.below1 {k n : Nat} {pre : List Nat} {ks : List (Nat × List En)} (h : Kd k n pre ks) {x : Nat × List En} (hx : x ∈ ks) : Below1 k n pre x.1 x.2 := ⟨h.et x hx, h.n64, h.pre x hx, h.adr x hx⟩
theorem cat_ahead {A : List (Nat × List En)} {m : List En} (h : ∀ x ∈ A, Ahead x.2 m) : Ahead (cat A) m := fun e he f hf => by
  obtain ⟨x, hx, he⟩ := mem_cat.1 he
  exact h x hx e he f hf
theorem ahead_cat {A : List (Nat × List En)} {l : List En} (h : ∀ x ∈ A, Ahead l x.2) : Ahead l (cat A) := fun e he f hf => by
  obtain ⟨x, hx, hf⟩ := mem_cat.1 hf
  exact h x hx e he f hf
/-- kids, but two at least are not asked for -/
structure Kz (k n : Nat) (pre : List Nat) (ks : List (Nat × List En)) : Prop where
  asc : Od.Asc ka ks
  bel : ∀ x ∈ ks, Below1 k n pre x.1 x.2
theorem Kd.kz {k n : Nat} {pre : List Nat} {ks : List (Nat × List En)} (h : Kd k n pre ks) : Kz k n pre ks := ⟨h.asc, fun x hx => h.below1 hx⟩
theorem Kz.take {k n : Nat} {pre : List Nat} {ks : List (Nat × List En)} (h : Kz k n pre ks) (i : Nat) : Kz k n pre (ks.take i) := ⟨List.Pairwise.sublist (List.take_sublist i ks) h.asc, fun x hx => h.bel x (List.mem_of_mem_take hx)⟩
theorem Kz.tail {k n : Nat} {pre : List Nat} {x : Nat × List En} {ks : List (Nat × List En)} (h : Kz k n pre (x :: ks)) : Kz k n pre ks := ⟨h.asc.tail, fun y hy => h.bel y (by simp [hy])⟩
theorem Kz.et {k n : Nat} {pre : List Nat} {ks : List (Nat × List En)} (h : Kz k n pre ks) : Et k (cat ks) := by
  induction ks with
  | nil => exact Et.nil k
  | cons x ks ih =>
    have e1 : cat (x :: ks) = x.2 ++ cat ks := by unfold cat; rw [List.flatMap_cons]
    rw [e1]
    exact (h.bel x (by simp)).et.app (ih h.tail) (ahead_cat fun y hy => (h.bel x (by simp)).ahead (h.bel y (by simp [hy])) (h.asc.head y hy))
/-- the first i kids lie ahead of what is below an address that none of them reaches -/
theorem Kz.take_ahead {k n a : Nat} {pre : List Nat} {ks : List (Nat × List En)} (h : Kz k n pre ks) (i : Nat) {m : List En} (hm : Below1 k n pre a m) (hl : ∀ j (hj : j < ks.length), j < i → ks[j].1 < a) : Ahead (cat (ks.take i)) m :=
  cat_ahead fun x hx => by
    obtain ⟨j, hj, rfl⟩ := List.mem_iff_getElem.1 hx
    rw [List.length_take] at hj
    rw [List.getElem_take]
    exact (h.bel _ (List.getElem_mem (show j < ks.length by omega))).ahead hm (hl j (by omega) (by omega))
theorem Kz.lt {k n : Nat} {pre : List Nat} {ks : List (Nat × List En)} (h : Kz k n pre ks) {i j : Nat} (hij : i < j) (hj : j < ks.length) : (ks[i]'(by omega)).1 < ks[j].1 := List.pairwise_iff_getElem.1 h.asc i j (by omega) hj hij
/-- which of two comes first is seen by their prefixes -/
theorem apart_order {k n : Nat} {p q p' q' : List Nat} (l1 : p.length = k) (l2 : q.length = k) (l3 : p'.length = k) (l4 : q'.length = k) (o1 : ∀ c ∈ p, c < 2 ^ 64) (o2 : ∀ c ∈ q, c < 2 ^ 64) (o3 : ∀ c ∈ p', c < 2 ^ 64) (o4 : ∀ c ∈ q', c < 2 ^ 64)
    (hp : Zb.cutN p n = Zb.cutN p' n) (hq : Zb.cutN q n = Zb.cutN q' n) (hne : Zb.cutN p n ≠ Zb.cutN q n) : (pkey p < pkey q ↔ pkey p' < pkey q') ∧ (pkey p < pkey q ∨ pkey q < pkey p) := by
  have a1 : Zb.agree p p' n := (Zb.cut_agree (by rw [l1, l3]) o1 o3 n).1 hp
  have a2 : Zb.agree q q' n := (Zb.cut_agree (by rw [l2, l4]) o2 o4 n).1 hq
  have hm0 : ¬ Zb.part p q 64 < n := fun h => hne ((Zb.cut_agree (by rw [l1, l2]) o1 o2 n).2 ((Zb.part_agree p q n).1 h))
  have hm1 := Zb.part_lt p q 64
  obtain ⟨m, hm⟩ : ∃ m : Nat, Zb.part p q 64 = m := ⟨(Zb.part p q 64).toNat, by omega⟩
  have hnm : n ≤ m := by omega
  have hm64 : m < 64 := by omega
  have a3 : Zb.agree p q (m + 1) := (Zb.part_agree p q (m + 1)).1 (by omega)
  have hd : Zb.addr p m ≠ Zb.addr q m := fun h => by
    have : Zb.agree p q m := fun j h1 h2 => by
      by_cases e : j = m
      · subst e; exact h
      · exact a3 j (by omega) h2
    have := (Zb.part_agree p q m).2 this
    omega
  have e1 : Zb.addr p' m = Zb.addr p m := (a1 m hnm hm64).symm
  have e2 : Zb.addr q' m = Zb.addr q m := (a2 m hnm hm64).symm
  have sy : ∀ {x y : List Nat} {j : Nat}, Zb.agree x y j → Zb.agree y x j := fun h i h1 h2 => (h i h1 h2).symm
  have a4 : Zb.agree p' q' (m + 1) := ((sy a1).mono (by omega)).trans (a3.trans (a2.mono (by omega)))
  rcases Nat.lt_or_gt_of_ne hd with h | h
  · have x1 := pkey_lt (by rw [l1, l2]) hm64 a3 h
    have x2 := pkey_lt (p := p') (q := q') (by rw [l3, l4]) hm64 a4 (by rw [e1, e2]; exact h)
    exact ⟨⟨fun _ => x2, fun _ => x1⟩, .inl x1⟩
  · have x1 := pkey_lt (p := q) (q := p) (by rw [l1, l2]) hm64 (sy a3) h
    have x2 := pkey_lt (p := q') (q := p') (by rw [l3, l4]) hm64 (sy a4) (by rw [e1, e2]; exact h)
    exact ⟨⟨fun h => by omega, fun h => by omega⟩, .inr x1⟩
end Go.Proofs.YtjokcagggmjgmaaGreat
