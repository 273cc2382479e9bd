/-
  Texts that the proof of BulkMakes leans on, part 7: contracts of functions, and plain laws.
-/
import Derived.Test.YtjokcagggmjgmaaGreatMBulkMakes6
import Derived.Deep.Slices
import Derived.Deep.Fields
import Derived.ChangeSame
import Derived.ProofKit
import Derived.OpenShut
/-! SrtG -/
namespace Go.Proofs.YtjokcagggmjgmaaGreat
open Go.RowKit
set_option linter.unusedVariables false
set_option linter.unusedSimpArgs false
set_option maxRecDepth 100000

theorem mid_eq {i j h : Nat} (e : (i + j) / 2 = h) (hb : i + j ≤ 100000) : wrap64 (IntKind.u64.wrap (wrap64 ((i : Int) + (j : Int))) / 2) = ((h : Nat) : Int) := by
  rw [show wrap64 ((i : Int) + (j : Int)) = ((i + j : Nat) : Int) by unfold wrap64; omega, show IntKind.u64.wrap ((i + j : Nat) : Int) = ((i + j : Nat) : Int) by rw [IntKind.wrap_u64]; omega]
  unfold wrap64; omega
theorem swap_mid2 (A : List Pe) (x y : Pe) (B : List Pe) : ((A ++ x :: y :: B).set A.length y).set (A.length + 1) x = A ++ y :: x :: B := by
  rw [List.set_append_right _ _ (by omega), Nat.sub_self, List.set_append_right _ _ (by omega), Nat.add_sub_cancel_left]
  rfl
/-- the runs are put together -/
def MrgR (W0 : World) (g n : Nat) (X L Y : List Pe) (e : Ending) (w' : World) : Prop := ∃ M, e = .returned (.tuple #[]) ∧ PR W0 w' g n (X ++ (M ++ Y)) ∧ M.length = L.length ∧ Stb L M ∧ Srt M
/-- the call as it is compared: two elements of the row -/
theorem ord_row {W0 wr : World} {g n k : Nat} {ys : List Pe} (hpr : PR W0 wr g n ys) {x y : Pe} (hx : x ∈ ys) (hy : y ∈ ys) (k1 : 1 ≤ k) (k16 : k ≤ 16) (hk : ∀ x ∈ ys, x.2.p.length = k ∧ ∀ q ∈ x.2.p, q < 2 ^ 64) :
    ∀ W, Below wr.heap.size wr W → Calls Tryz.prog 119 #[.agg #[x.1, .int .u64 (x.2.v : Nat)], .agg #[y.1, .int .u64 (y.2.v : Nat)]] W fun e w' => e = .returned (.int .i64 (Zb.cmp x.2.p y.2.p)) ∧ Below W.heap.size W w' := fun W hb => by
  have h1 := hk x hx
  have h2 := hk y hy
  have hb2 := hpr.bel.trans (hb.mono hpr.bel.size)
  exact order_any W x.2.p y.2.p x.1 y.1 x.2.v y.2.v ((hpr.pts x hx).below hb2) ((hpr.pts y hy).below hb2) (by rw [h1.1, h2.1]) (by rw [h1.1]; exact k1) (by rw [h1.1]; exact k16) h1.2 h2.2
set_option maxHeartbeats 8000000 in
theorem sym_left (W0 w : World) (g n a mm b m c k : Nat) (X B Y : List Pe) (x : Pe) (ha : X.length = a) (hmm : a + 1 = mm) (hb : mm + B.length = b) (hm : b + Y.length = m) (hmx : m ≤ 1000) (k1 : 1 ≤ k) (k16 : k ≤ 16) (h : PR W0 w g n (X ++ (x :: (B ++ Y))))
    (hk : ∀ x' ∈ X ++ (x :: (B ++ Y)), x'.2.p.length = k ∧ ∀ q ∈ x'.2.p, q < 2 ^ 64) (hB : Srt B) :
    Calls Tryz.prog 179 #[.slice (some ⟨g, 0, none⟩) m c, .int .i64 (a : Nat), .int .i64 (mm : Nat), .int .i64 (b : Nat), .func (.func 119) #[] #[]] w fun e w' => MrgR W0 g n X (x :: B) Y e w' := by
  have hent := enters_lit' Tryz.func119 (by kernel_rfl) (by kernel_rfl)
  have HP0 := Lib.hid h
  have HD := Lib.hid (And.intro ha (And.intro hmm (And.intro hb (And.intro hm hmx))))
  have HK := Lib.hid (And.intro hk (And.intro k1 (And.intro k16 hB)))
  have HW1 := Lib.hid (show wrap64 ((mm : Int) - (a : Int)) = ((1 : Nat) : Int) from wrap_sub (by omega) (by omega))
  have hw1 : wrap64 ((mm : Int) - (a : Int)) = 1 := HW1.out
  clear ha hmm hb hm hmx k1 k16 h hk hB
  go_enter Tryz.func179, Tryz.ntmps179
  go_wp2_with fail
  go_loopw [10, 11, 12] (fun iv jv _ wr => ∃ q r : Nat, iv = .int .i64 ((mm + q : Nat) : Int) ∧ jv = .int .i64 ((mm + r : Nat) : Int) ∧ q ≤ r ∧ r ≤ B.length ∧ (∀ t (h : t < B.length), t < q → ek B[t] < ek x) ∧ (∀ t (h : t < B.length), r ≤ t → ek x ≤ ek B[t]) ∧ PR W0 wr g n (X ++ (x :: (B ++ Y)))) (fun iv jv _ _ => (intOf jv).toNat - (intOf iv).toNat)
  case atStart => exact ⟨0, B.length, rfl, by rw [HD.out.2.2.1], Nat.zero_le _, Nat.le_refl _, (fun t _ h => by omega), (fun t h h' => by omega), HP0.out⟩
  case round =>
    obtain ⟨q, r, rfl, rfl, hqr, hrl, hlo, hhi, hpr⟩ := hrel
    have HI := Lib.hid (And.intro hqr (And.intro hrl (And.intro hlo (And.intro hhi hpr))))
    by_cases hlt : q < r
    · obtain ⟨d1, d2, d3, d4, d5⟩ := HD.out
      obtain ⟨i, hi⟩ : ∃ i, mm + q = i := ⟨_, rfl⟩
      obtain ⟨j, hj⟩ : ∃ j, mm + r = j := ⟨_, rfl⟩
      obtain ⟨h, hh⟩ : ∃ h, (i + j) / 2 = h := ⟨_, rfl⟩
      obtain ⟨t, ht⟩ : ∃ t, h = mm + t := ⟨h - mm, by omega⟩
      have htB : t < B.length := by omega
      have hqt : q ≤ t ∧ t < r := by omega
      have ey : (X ++ (x :: (B ++ Y)))[h]? = some B[t] := by
        rw [List.getElem?_append_right (by omega), show h - X.length = t + 1 by omega, List.getElem?_cons_succ, List.getElem?_append_left htB, List.getElem?_eq_getElem htB]
      have ex : (X ++ (x :: (B ++ Y)))[a]? = some x := by
        rw [List.getElem?_append_right (by omega), show a - X.length = 0 by omega]; rfl
      obtain ⟨k0, k1, ry⟩ := hpr.at2 h _ ey
      obtain ⟨q0, q1, rx⟩ := hpr.at2 a _ ex
      have HOR := Lib.hid (ord_row hpr (List.mem_of_getElem? ey) (List.mem_of_getElem? ex) HK.out.2.1 HK.out.2.2.1 HK.out.1)
      have HLT := Lib.hid (show ek B[t] < ek x → ∀ s (h : s < B.length), s < t + 1 → ek B[s] < ek x from fun h0 s hs h' => by
        by_cases e : s = t
        · subst e; exact h0
        · have := List.pairwise_iff_getElem.1 HK.out.2.2.2 s t hs htB (by omega); omega)
      have HGE := Lib.hid (show ¬ ek B[t] < ek x → ∀ s (h : s < B.length), t ≤ s → ek x ≤ ek B[s] from fun h0 s hs h' => by
        by_cases e : s = t
        · subst e; omega
        · have := List.pairwise_iff_getElem.1 HK.out.2.2.2 t s htB hs (by omega); omega)
      have hth := fun r => hpr.thaw r
      have hgl := hpr.lt
      generalize B[t] = y at *
      obtain ⟨ux, px, vx⟩ := x
      obtain ⟨uy, py, vy⟩ := y
      simp only at k0 k1 q0 q1 rx ry HOR
      obtain ⟨z, hz⟩ : ∃ z, Zb.cmp py px = z := ⟨_, rfl⟩
      rw [hz] at HOR
      have HZ := Lib.hid (show z < 0 ↔ pkey py < pkey px from hz ▸ cmp_neg py px)
      have hij : (i : Int) < (j : Int) := by omega
      have hh1 : (h : Int) < (m : Int) := by omega
      have hh2 : (0 : Int) ≤ (h : Int) := by omega
      have ha1 : (a : Int) < (m : Int) := by omega
      have ha2 : (0 : Int) ≤ (a : Int) := by omega
      have HN := Lib.hid (And.intro hi (And.intro hj (And.intro ht (And.intro hqt htB))))
      have HW2 := Lib.hid (show wrap64 ((h : Int) + 1) = ((h + 1 : Nat) : Int) from wrap_succ (by omega))
      have HMW := Lib.hid (mid_eq hh (by omega))
      rw [hi, hj]
      obtain ⟨Ax, cx, rfl, _⟩ := RdU.point rx
      obtain ⟨Ay, cy, rfl, _⟩ := RdU.point ry
      clear hlo hhi hpr hqr hrl hz ey ex rx ry hi hj hh ht htB hqt hlt d1 d2 d3 d4 d5
      go_wp2_with fail
      rw [HMW.out]
      refine wp_region_vals 10 [fun z9 _ => z9 = .func (.func 119) #[] #[],
        fun z9 _ => z9 = .slice (some ⟨g, 0, none⟩) m c,
        fun z9 _ => z9 = .int .i64 (h : Nat),
        fun z9 _ => z9 = .pointer (some ⟨g, h * 2, none⟩),
        fun z9 _ => z9 = .agg #[.slice Ay py.length cy, .int .u64 (vy : Nat)],
        fun z9 _ => z9 = .slice (some ⟨g, 0, none⟩) m c,
        fun z9 _ => z9 = .int .i64 (a : Nat),
        fun z9 _ => z9 = .pointer (some ⟨g, a * 2, none⟩),
        fun z9 _ => z9 = .agg #[.slice Ax px.length cx, .int .u64 (vx : Nat)],
        fun z9 _ => z9 = .int .i64 z]
        (by kernel_rfl) (by kernel_rfl) (by kernel_rfl) (by kernel_rfl) ?_ ?_ ?_
      · intro V hV v w1 w2 h hb
        simp only [List.mem_cons, List.not_mem_nil, or_false] at hV
        rcases hV with rfl | rfl | rfl | rfl | rfl | rfl | rfl | rfl | rfl | rfl
        all_goals first | exact h | (exact h)
      · intro iq oq hiq hoq
        match iq, hiq with
        | 0, _ =>
        obtain rfl := Option.some.inj hoq
        intro a1 w1 K hk hK
        have e4 : a1.tmps.getD 4 undef = .func (.func 119) #[] #[] := hk.same 4 (by simp)
        simp [Region.wanted, Oper.wp, Act.eval, go_sem, e4, k0, k1, q0, q1, hh1, hh2, ha1, ha2, hgl, hent]
        exact hK _ _ (Below.refl _ _) rfl
        | 1, _ =>
        obtain rfl := Option.some.inj hoq
        intro a1 w1 K hk hK
        have e0 : a1.tmps.getD 0 undef = .slice (some ⟨g, 0, none⟩) m c := hk.same 0 (by simp)
        simp [Region.wanted, Oper.wp, Act.eval, go_sem, e0, k0, k1, q0, q1, hh1, hh2, ha1, ha2, hgl, hent]
        exact hK _ _ (Below.refl _ _) rfl
        | 2, _ =>
        obtain rfl := Option.some.inj hoq
        intro a1 w1 K hk hK
        have e12 : a1.tmps.getD 12 undef = .int .i64 (h : Nat) := hk.same 12 (by simp)
        simp [Region.wanted, Oper.wp, Act.eval, go_sem, e12, k0, k1, q0, q1, hh1, hh2, ha1, ha2, hgl, hent]
        exact hK _ _ (Below.refl _ _) rfl
        | 3, _ =>
        obtain rfl := Option.some.inj hoq
        intro a1 w1 K hk hK
        have d41 : a1.tmps.getD 41 undef = .slice (some ⟨g, 0, none⟩) m c := hk.deps ⟨1, .data⟩ (by simp) rfl _ _ rfl rfl
        have d42 : a1.tmps.getD 42 undef = .int .i64 (h : Nat) := hk.deps ⟨2, .data⟩ (by simp) rfl _ _ rfl rfl
        simp [Region.wanted, Oper.wp, Act.eval, go_sem, d41, d42, k0, k1, q0, q1, hh1, hh2, ha1, ha2, hgl, hent]
        exact hK _ _ (Below.refl _ _) rfl
        | 4, _ =>
        obtain rfl := Option.some.inj hoq
        intro a1 w1 K hk hK
        have d43 : a1.tmps.getD 43 undef = .pointer (some ⟨g, h * 2, none⟩) := hk.deps ⟨3, .data⟩ (by simp) rfl _ _ rfl rfl
        have c0 : w1.cell? ⟨g, h * 2, none⟩ = some (.slice Ay py.length cy) := Below.keeps hk.ext _ _ (by simp [go_sem, k0, k1, q0, q1, hh1, hh2, ha1, ha2, hgl, hent])
        have c1 : w1.cell? ⟨g, h * 2 + 1, none⟩ = some (.int .u64 (vy : Nat)) := Below.keeps hk.ext _ _ (by simp [go_sem, k0, k1, q0, q1, hh1, hh2, ha1, ha2, hgl, hent])
        have c2 : w1.cell? ⟨g, a * 2, none⟩ = some (.slice Ax px.length cx) := Below.keeps hk.ext _ _ (by simp [go_sem, k0, k1, q0, q1, hh1, hh2, ha1, ha2, hgl, hent])
        have c3 : w1.cell? ⟨g, a * 2 + 1, none⟩ = some (.int .u64 (vx : Nat)) := Below.keeps hk.ext _ _ (by simp [go_sem, k0, k1, q0, q1, hh1, hh2, ha1, ha2, hgl, hent])
        simp [Region.wanted, Oper.wp, Act.eval, go_sem, d43, c0, c1, c2, c3, k0, k1, q0, q1, hh1, hh2, ha1, ha2, hgl, hent]
        exact hK _ _ (Below.refl _ _) rfl
        | 5, _ =>
        obtain rfl := Option.some.inj hoq
        intro a1 w1 K hk hK
        have e0 : a1.tmps.getD 0 undef = .slice (some ⟨g, 0, none⟩) m c := hk.same 0 (by simp)
        simp [Region.wanted, Oper.wp, Act.eval, go_sem, e0, k0, k1, q0, q1, hh1, hh2, ha1, ha2, hgl, hent]
        exact hK _ _ (Below.refl _ _) rfl
        | 6, _ =>
        obtain rfl := Option.some.inj hoq
        intro a1 w1 K hk hK
        have e1 : a1.tmps.getD 1 undef = .int .i64 (a : Nat) := hk.same 1 (by simp)
        simp [Region.wanted, Oper.wp, Act.eval, go_sem, e1, k0, k1, q0, q1, hh1, hh2, ha1, ha2, hgl, hent]
        exact hK _ _ (Below.refl _ _) rfl
        | 7, _ =>
        obtain rfl := Option.some.inj hoq
        intro a1 w1 K hk hK
        have d45 : a1.tmps.getD 45 undef = .slice (some ⟨g, 0, none⟩) m c := hk.deps ⟨5, .data⟩ (by simp) rfl _ _ rfl rfl
        have d46 : a1.tmps.getD 46 undef = .int .i64 (a : Nat) := hk.deps ⟨6, .data⟩ (by simp) rfl _ _ rfl rfl
        simp [Region.wanted, Oper.wp, Act.eval, go_sem, d45, d46, k0, k1, q0, q1, hh1, hh2, ha1, ha2, hgl, hent]
        exact hK _ _ (Below.refl _ _) rfl
        | 8, _ =>
        obtain rfl := Option.some.inj hoq
        intro a1 w1 K hk hK
        have d47 : a1.tmps.getD 47 undef = .pointer (some ⟨g, a * 2, none⟩) := hk.deps ⟨7, .data⟩ (by simp) rfl _ _ rfl rfl
        have c0 : w1.cell? ⟨g, h * 2, none⟩ = some (.slice Ay py.length cy) := Below.keeps hk.ext _ _ (by simp [go_sem, k0, k1, q0, q1, hh1, hh2, ha1, ha2, hgl, hent])
        have c1 : w1.cell? ⟨g, h * 2 + 1, none⟩ = some (.int .u64 (vy : Nat)) := Below.keeps hk.ext _ _ (by simp [go_sem, k0, k1, q0, q1, hh1, hh2, ha1, ha2, hgl, hent])
        have c2 : w1.cell? ⟨g, a * 2, none⟩ = some (.slice Ax px.length cx) := Below.keeps hk.ext _ _ (by simp [go_sem, k0, k1, q0, q1, hh1, hh2, ha1, ha2, hgl, hent])
        have c3 : w1.cell? ⟨g, a * 2 + 1, none⟩ = some (.int .u64 (vx : Nat)) := Below.keeps hk.ext _ _ (by simp [go_sem, k0, k1, q0, q1, hh1, hh2, ha1, ha2, hgl, hent])
        simp [Region.wanted, Oper.wp, Act.eval, go_sem, d47, c0, c1, c2, c3, k0, k1, q0, q1, hh1, hh2, ha1, ha2, hgl, hent]
        exact hK _ _ (Below.refl _ _) rfl
        | 9, _ =>
        obtain rfl := Option.some.inj hoq
        intro a1 w1 K hk hK
        have d40 : a1.tmps.getD 40 undef = .func (.func 119) #[] #[] := hk.deps ⟨0, .data⟩ (by simp) rfl _ _ rfl rfl
        have d44 : a1.tmps.getD 44 undef = .agg #[.slice Ay py.length cy, .int .u64 (vy : Nat)] := hk.deps ⟨4, .data⟩ (by simp) rfl _ _ rfl rfl
        have d48 : a1.tmps.getD 48 undef = .agg #[.slice Ax px.length cx, .int .u64 (vx : Nat)] := hk.deps ⟨8, .data⟩ (by simp) rfl _ _ rfl rfl
        simp [Region.wanted, Oper.wp, Act.eval, go_sem, d40, d44, d48, k0, k1, q0, q1, hh1, hh2, ha1, ha2, hgl, hent]
        refine (HOR.out _ (below_trans (by repeat (first | exact Below.refl _ _ | (refine Below.drew ?_) | (refine below_drewN' ?_ _) | (refine below_alloc' ?_ _) | (refine Below.setCell ?_ (by first | exact Nat.le_refl _ | (simp; done) | (simp; omega)) _))) hk.ext)).mono ?_
        rintro e w9 ⟨rfl, hb9⟩
        exact hK _ _ hb9 rfl
      · intro vs w3 hl hb3 hv
        match vs, hl with
        | [v0, v1, v2, v3, v4, v5, v6, v7, v8, v9], _ =>
        obtain rfl : v0 = .func (.func 119) #[] #[] := hv 0 (by omega)
        obtain rfl : v1 = .slice (some ⟨g, 0, none⟩) m c := hv 1 (by omega)
        obtain rfl : v2 = .int .i64 (h : Nat) := hv 2 (by omega)
        obtain rfl : v3 = .pointer (some ⟨g, h * 2, none⟩) := hv 3 (by omega)
        obtain rfl : v4 = .agg #[.slice Ay py.length cy, .int .u64 (vy : Nat)] := hv 4 (by omega)
        obtain rfl : v5 = .slice (some ⟨g, 0, none⟩) m c := hv 5 (by omega)
        obtain rfl : v6 = .int .i64 (a : Nat) := hv 6 (by omega)
        obtain rfl : v7 = .pointer (some ⟨g, a * 2, none⟩) := hv 7 (by omega)
        obtain rfl : v8 = .agg #[.slice Ax px.length cx, .int .u64 (vx : Nat)] := hv 8 (by omega)
        obtain rfl : v9 = .int .i64 z := hv 9 (by omega)
        clear hv
        simp only [putAll, List.take_succ_cons, List.take_zero, List.drop_succ_cons, List.drop_zero, Act.put, List.setIfInBounds_toArray, List.set_cons_succ, List.set_cons_zero]
        have HP3 := Lib.hid (HI.out.2.2.2.2.step (show Below wr.heap.size wr w3 from hb3))
        clear hb3 hth k0 k1 q0 q1 hgl
        by_cases hz0 : z < 0
        · have HL := Lib.hid (HLT.out (HZ.out.1 hz0))
          go_wp2_with fail
          go_roundw
          case rel =>
            obtain ⟨n1, n2, n3, n4, n5⟩ := HN.out
            exact ⟨t + 1, r, by rw [HW2.out]; congr 2; omega, by rw [n2], by omega, HI.out.2.1, HL.out, HI.out.2.2.2.1, HP3.out⟩
          case measure =>
            obtain ⟨n1, n2, n3, n4, n5⟩ := HN.out
            rw [intOf_nat, intOf_of' HW2.out, intOf_nat]; omega
        · have HL := Lib.hid (HGE.out (fun h => hz0 (HZ.out.2 h)))
          go_wp2_with fail
          go_roundw
          case rel =>
            obtain ⟨n1, n2, n3, n4, n5⟩ := HN.out
            exact ⟨q, t, by rw [n1], by rw [n3], by omega, by omega, HI.out.2.2.1, HL.out, HP3.out⟩
          case measure =>
            obtain ⟨n1, n2, n3, n4, n5⟩ := HN.out
            rw [intOf_nat, intOf_nat, intOf_nat]; omega
    · obtain rfl : q = r := by omega
      obtain ⟨d1, d2, d3, d4, d5⟩ := HD.out
      obtain ⟨i, hi⟩ : ∃ i, mm + q = i := ⟨_, rfl⟩
      obtain ⟨j, hj⟩ : ∃ j, a + q = j := ⟨_, rfl⟩
      have hij : ¬ (i : Int) < (i : Int) := by omega
      have HW3 := Lib.hid (show wrap64 ((i : Int) - 1) = (j : Int) from by have := wrap_sub (a := i) (i := 1) (p := j) (by omega) (by omega); exact this)
      have HJ := Lib.hid hj
      rw [hi]
      have HF := Lib.hid (show ∀ w', PR W0 w' g n (X ++ (B.take q ++ (x :: (B.drop q ++ Y)))) → MrgR W0 g n X (x :: B) Y (.returned (.tuple #[])) w' from fun w' hp => by
        have h1 : ∀ y ∈ B.take q, ek y < ek x := fun y hy => by
          obtain ⟨i, hi, rfl⟩ := List.mem_iff_getElem.1 hy
          rw [List.length_take] at hi
          rw [List.getElem_take]
          exact hlo i (by omega) (by omega)
        have h2 : ∀ y ∈ B.drop q, ek x ≤ ek y := fun y hy => by
          obtain ⟨i, hi, rfl⟩ := List.mem_iff_getElem.1 hy
          rw [List.length_drop] at hi
          rw [List.getElem_drop]
          exact hhi (q + i) (by omega) (by omega)
        have h3 := HK.out.2.2.2
        rw [← List.take_append_drop q B] at h3
        obtain ⟨s1, s2, s3⟩ := List.pairwise_append.1 h3
        refine ⟨B.take q ++ (x :: B.drop q), rfl, by simpa using hp, by simp; omega, ?_, ?_⟩
        · have e := Stb.swap (X := [x]) (Y := B.take q) (fun u hu v hv => by obtain rfl := List.mem_singleton.1 hu; have := h1 v hv; omega)
          have e2 := e.append (Stb.refl (B.drop q))
          simpa using e2
        · refine List.pairwise_append.2 ⟨s1, List.pairwise_cons.2 ⟨h2, s2⟩, fun u hu v hv => ?_⟩
          rcases List.mem_cons.1 hv with rfl | hv
          · exact Nat.le_of_lt (h1 u hu)
          · exact s3 u hu v hv)
      clear hlo hhi hpr hqr hi hj d1 d2 d3 d4 d5
      go_wp2_with fail
      go_loopw [13] (fun kv wr => ∃ s : Nat, s ≤ q ∧ kv = .int .i64 ((a + s : Nat) : Int) ∧ PR W0 wr g n (X ++ (B.take s ++ (x :: (B.drop s ++ Y))))) (fun kv _ => j - (intOf kv).toNat)
      case atStart => exact ⟨0, Nat.zero_le _, rfl, by simpa using HI.out.2.2.2.2⟩
      case round =>
        obtain ⟨s, hs, rfl, hpr⟩ := hrel
        have HS := Lib.hid (And.intro hs hpr)
        obtain ⟨d1, d2, d3, d4, d5⟩ := HD.out
        by_cases hsq : s < q
        · have hsB : s < B.length := by omega
          obtain ⟨y, hy⟩ : ∃ y, B[s] = y := ⟨_, rfl⟩
          have e1 : X ++ (B.take s ++ (x :: (B.drop s ++ Y))) = (X ++ B.take s) ++ x :: y :: (B.drop (s + 1) ++ Y) := by rw [← List.getElem_cons_drop hsB, hy]; simp
          have e2 : X ++ (B.take (s + 1) ++ (x :: (B.drop (s + 1) ++ Y))) = (X ++ B.take s) ++ y :: x :: (B.drop (s + 1) ++ Y) := by rw [← List.take_append_getElem hsB, hy]; simp
          obtain ⟨p, hp⟩ : ∃ p, a + s = p := ⟨_, rfl⟩
          have hlen : (X ++ B.take s).length = p := by simp; omega
          have hpr2 := hpr
          rw [e1] at hpr2
          have ex : ((X ++ B.take s) ++ x :: y :: (B.drop (s + 1) ++ Y))[p]? = some x := by rw [List.getElem?_append_right (by omega), show p - (X ++ B.take s).length = 0 by omega]; rfl
          have ey : ((X ++ B.take s) ++ x :: y :: (B.drop (s + 1) ++ Y))[p + 1]? = some y := by rw [List.getElem?_append_right (by omega), show p + 1 - (X ++ B.take s).length = 1 by omega]; rfl
          obtain ⟨k0, k1, rx⟩ := hpr2.at2 p _ ex
          obtain ⟨q0, q1, ry⟩ := hpr2.at2 (p + 1) _ ey
          have hpl : p + 1 < ((X ++ B.take s) ++ x :: y :: (B.drop (s + 1) ++ Y)).length := by rw [List.length_append]; simp; omega
          have HSET := Lib.hid (show PR W0 ((((wr.setCell ⟨g, p * 2, none⟩ y.1).setCell ⟨g, p * 2 + 1, none⟩ (.int .u64 (y.2.v : Nat))).setCell ⟨g, (p + 1) * 2, none⟩ x.1).setCell ⟨g, (p + 1) * 2 + 1, none⟩ (.int .u64 (x.2.v : Nat))) g n (X ++ (B.take (s + 1) ++ (x :: (B.drop (s + 1) ++ Y)))) from by
            have h9 := (hpr2.set (j := p) (by omega) y ry).set (j := p + 1) (by rw [List.length_set]; exact hpl) x rx
            have h8 := swap_mid2 (X ++ B.take s) x y (B.drop (s + 1) ++ Y)
            rw [hlen] at h8
            rw [h8, ← e2] at h9
            exact h9)
          have hth := fun r => hpr.thaw r
          have hgl := hpr.lt
          obtain ⟨ux, px, vx⟩ := x
          obtain ⟨uy, py, vy⟩ := y
          simp only at k0 k1 q0 q1 rx ry
          have hp1 : (p : Int) < (j : Int) := by have := HJ.out; omega
          have hp2 : (p : Int) < (m : Int) := by omega
          have hp3 : (0 : Int) ≤ (p : Int) := by omega
          have hp4 : (p : Int) + 1 < (m : Int) := by omega
          have hp5 : (0 : Int) ≤ (p : Int) + 1 := by omega
          have hp6 : p + 1 < m := by omega
          have hp7 : p < m := by omega
          have HPN := Lib.hid (show s + 1 ≤ q ∧ p + 1 = a + (s + 1) ∧ j - (((p + 1 : Nat) : Int)).toNat < j - ((p : Nat) : Int).toNat from by have := HJ.out; omega)
          have HW4 := Lib.hid (show wrap64 ((p : Int) + 1) = ((p + 1 : Nat) : Int) from wrap_succ (by omega))
          obtain ⟨Ax, cx, rfl, _⟩ := RdU.point rx
          obtain ⟨Ay, cy, rfl, _⟩ := RdU.point ry
          rw [hp]
          have hw3 := HW3.out
          have hw4 := HW4.out
          clear hpr hpr2 hy e1 e2 ex ey rx ry hp hlen hpl hs d1 d2 d3 d4 d5 hsq
          go_wp2_with fail
          go_region
          go_wp2_with fail
          refine ⟨⟨s + 1, HPN.out.1, by rw [hw4, HPN.out.2.1], HSET.out.step (by repeat (first | exact Below.refl _ _ | (refine Below.drew ?_) | (refine below_drewN' ?_ _)))⟩, ?_⟩
          rw [intOf_of' hw4, intOf_nat]
          exact HPN.out.2.2
        · obtain rfl : s = q := by omega
          have e : a + s = j := HJ.out
          have hp1 : ¬ (j : Int) < (j : Int) := by omega
          have hw3 := HW3.out
          rw [e]
          clear hpr hs d1 d2 d3 d4 d5 e
          go_wp2_with fail
          go_end0
          exact HF.out _ HS.out.2
end Go.Proofs.YtjokcagggmjgmaaGreat
/-! SrtH -/
namespace Go.Proofs.YtjokcagggmjgmaaGreat
open Go.RowKit
set_option linter.unusedVariables false
set_option linter.unusedSimpArgs false
set_option maxRecDepth 100000

set_option maxHeartbeats 8000000 in
theorem sym_right (W0 w : World) (g n a mm b m c k : Nat) (X A Y : List Pe) (x : Pe) (ha : X.length = a) (hmm : a + A.length = mm) (hb : mm + 1 = b) (hm : b + Y.length = m) (hmx : m ≤ 1000) (hA2 : 2 ≤ A.length) (k1 : 1 ≤ k) (k16 : k ≤ 16) (h : PR W0 w g n (X ++ (A ++ (x :: Y))))
    (hk : ∀ x' ∈ X ++ (A ++ (x :: Y)), x'.2.p.length = k ∧ ∀ q ∈ x'.2.p, q < 2 ^ 64) (hA : Srt A) :
    Calls Tryz.prog 179 #[.slice (some ⟨g, 0, none⟩) m c, .int .i64 (a : Nat), .int .i64 (mm : Nat), .int .i64 (b : Nat), .func (.func 119) #[] #[]] w fun e w' => MrgR W0 g n X (A ++ [x]) Y e w' := by
  have hent := enters_lit' Tryz.func119 (by kernel_rfl) (by kernel_rfl)
  have HP0 := Lib.hid h
  have HD := Lib.hid (And.intro ha (And.intro hmm (And.intro hb (And.intro hm hmx))))
  have HK := Lib.hid (And.intro hk (And.intro k1 (And.intro k16 hA)))
  obtain ⟨la, hla⟩ : ∃ la, A.length = la := ⟨_, rfl⟩
  have hl1 : ¬ (la : Int) = 1 := by omega
  have hl2 : ((la : Int) == 1) = false := by simpa using hl1
  have HW1 := Lib.hid (show wrap64 ((mm : Int) - (a : Int)) = (la : Int) from wrap_sub (by omega) (by omega))
  have HW2 := Lib.hid (show wrap64 ((b : Int) - (mm : Int)) = ((1 : Nat) : Int) from wrap_sub (by omega) (by omega))
  have hw1 := HW1.out
  have hw2 : wrap64 ((b : Int) - (mm : Int)) = 1 := HW2.out
  clear ha hmm hb hm hmx k1 k16 h hk hA hA2 hla
  go_enter Tryz.func179, Tryz.ntmps179
  go_wp2_with fail
  clear hw1 hw2
  go_loopw [14, 15, 16] (fun iv jv _ wr => ∃ q r : Nat, iv = .int .i64 ((a + q : Nat) : Int) ∧ jv = .int .i64 ((a + r : Nat) : Int) ∧ q ≤ r ∧ r ≤ A.length ∧ (∀ t (h : t < A.length), t < q → ek A[t] ≤ ek x) ∧ (∀ t (h : t < A.length), r ≤ t → ek x < ek A[t]) ∧ PR W0 wr g n (X ++ (A ++ (x :: Y)))) (fun iv jv _ _ => (intOf jv).toNat - (intOf iv).toNat)
  case atStart => exact ⟨0, A.length, rfl, by rw [HD.out.2.1], Nat.zero_le _, Nat.le_refl _, (fun t _ h => by omega), (fun t h h' => by omega), HP0.out⟩
  case round =>
    obtain ⟨q, r, rfl, rfl, hqr, hrl, hlo, hhi, hpr⟩ := hrel
    have HI := Lib.hid (And.intro hqr (And.intro hrl (And.intro hlo (And.intro hhi hpr))))
    by_cases hlt : q < r
    · obtain ⟨d1, d2, d3, d4, d5⟩ := HD.out
      obtain ⟨i, hi⟩ : ∃ i, a + q = i := ⟨_, rfl⟩
      obtain ⟨j, hj⟩ : ∃ j, a + r = j := ⟨_, rfl⟩
      obtain ⟨h, hh⟩ : ∃ h, (i + j) / 2 = h := ⟨_, rfl⟩
      obtain ⟨t, ht⟩ : ∃ t, h = a + t := ⟨h - a, by omega⟩
      have htB : t < A.length := by omega
      have hqt : q ≤ t ∧ t < r := by omega
      have ey : (X ++ (A ++ (x :: Y)))[h]? = some A[t] := by
        rw [List.getElem?_append_right (by omega), show h - X.length = t by omega, List.getElem?_append_left htB, List.getElem?_eq_getElem htB]
      have ex : (X ++ (A ++ (x :: Y)))[mm]? = some x := by
        rw [List.getElem?_append_right (by omega), List.getElem?_append_right (by omega), show mm - X.length - A.length = 0 by omega]; rfl
      obtain ⟨k0, k1, ry⟩ := hpr.at2 h _ ey
      obtain ⟨q0, q1, rx⟩ := hpr.at2 mm _ ex
      have HOR := Lib.hid (ord_row hpr (List.mem_of_getElem? ex) (List.mem_of_getElem? ey) HK.out.2.1 HK.out.2.2.1 HK.out.1)
      have HLT := Lib.hid (show ¬ ek x < ek A[t] → ∀ s (h : s < A.length), s < t + 1 → ek A[s] ≤ ek x from fun h0 s hs h' => by
        by_cases e : s = t
        · subst e; omega
        · have := List.pairwise_iff_getElem.1 HK.out.2.2.2 s t hs htB (by omega); omega)
      have HGE := Lib.hid (show ek x < ek A[t] → ∀ s (h : s < A.length), t ≤ s → ek x < ek A[s] from fun h0 s hs h' => by
        by_cases e : s = t
        · subst e; omega
        · have := List.pairwise_iff_getElem.1 HK.out.2.2.2 t s htB hs (by omega); omega)
      have hth := fun r => hpr.thaw r
      have hgl := hpr.lt
      generalize A[t] = y at *
      obtain ⟨ux, px, vx⟩ := x
      obtain ⟨uy, py, vy⟩ := y
      simp only at k0 k1 q0 q1 rx ry HOR
      obtain ⟨z, hz⟩ : ∃ z, Zb.cmp px py = z := ⟨_, rfl⟩
      rw [hz] at HOR
      have HZ := Lib.hid (show z < 0 ↔ pkey px < pkey py from hz ▸ cmp_neg px py)
      have hij : (i : Int) < (j : Int) := by omega
      have hh1 : (h : Int) < (m : Int) := by omega
      have hh2 : (0 : Int) ≤ (h : Int) := by omega
      have ha1 : (mm : Int) < (m : Int) := by omega
      have ha2 : (0 : Int) ≤ (mm : Int) := by omega
      have HN := Lib.hid (And.intro hi (And.intro hj (And.intro ht (And.intro hqt htB))))
      have HW2 := Lib.hid (show wrap64 ((h : Int) + 1) = ((h + 1 : Nat) : Int) from wrap_succ (by omega))
      have HMW := Lib.hid (mid_eq hh (by omega))
      rw [hi, hj]
      obtain ⟨Ax, cx, rfl, _⟩ := RdU.point rx
      obtain ⟨Ay, cy, rfl, _⟩ := RdU.point ry
      clear hlo hhi hpr hqr hrl hz ey ex rx ry hi hj hh ht htB hqt hlt d1 d2 d3 d4 d5
      go_wp2_with fail
      rw [HMW.out]
      refine wp_region_vals 10 [fun z9 _ => z9 = .func (.func 119) #[] #[],
        fun z9 _ => z9 = .slice (some ⟨g, 0, none⟩) m c,
        fun z9 _ => z9 = .int .i64 (mm : Nat),
        fun z9 _ => z9 = .pointer (some ⟨g, mm * 2, none⟩),
        fun z9 _ => z9 = .agg #[.slice Ax px.length cx, .int .u64 (vx : Nat)],
        fun z9 _ => z9 = .slice (some ⟨g, 0, none⟩) m c,
        fun z9 _ => z9 = .int .i64 (h : Nat),
        fun z9 _ => z9 = .pointer (some ⟨g, h * 2, none⟩),
        fun z9 _ => z9 = .agg #[.slice Ay py.length cy, .int .u64 (vy : Nat)],
        fun z9 _ => z9 = .int .i64 z]
        (by kernel_rfl) (by kernel_rfl) (by kernel_rfl) (by kernel_rfl) ?_ ?_ ?_
      · intro V hV v w1 w2 h hb
        simp only [List.mem_cons, List.not_mem_nil, or_false] at hV
        rcases hV with rfl | rfl | rfl | rfl | rfl | rfl | rfl | rfl | rfl | rfl
        all_goals first | exact h | (exact h)
      · intro iq oq hiq hoq
        match iq, hiq with
        | 0, _ =>
        obtain rfl := Option.some.inj hoq
        intro a1 w1 K hk hK
        have e4 : a1.tmps.getD 4 undef = .func (.func 119) #[] #[] := hk.same 4 (by simp)
        simp [Region.wanted, Oper.wp, Act.eval, go_sem, e4, k0, k1, q0, q1, hh1, hh2, ha1, ha2, hgl, hent]
        exact hK _ _ (Below.refl _ _) rfl
        | 1, _ =>
        obtain rfl := Option.some.inj hoq
        intro a1 w1 K hk hK
        have e0 : a1.tmps.getD 0 undef = .slice (some ⟨g, 0, none⟩) m c := hk.same 0 (by simp)
        simp [Region.wanted, Oper.wp, Act.eval, go_sem, e0, k0, k1, q0, q1, hh1, hh2, ha1, ha2, hgl, hent]
        exact hK _ _ (Below.refl _ _) rfl
        | 2, _ =>
        obtain rfl := Option.some.inj hoq
        intro a1 w1 K hk hK
        have e2 : a1.tmps.getD 2 undef = .int .i64 (mm : Nat) := hk.same 2 (by simp)
        simp [Region.wanted, Oper.wp, Act.eval, go_sem, e2, k0, k1, q0, q1, hh1, hh2, ha1, ha2, hgl, hent]
        exact hK _ _ (Below.refl _ _) rfl
        | 3, _ =>
        obtain rfl := Option.some.inj hoq
        intro a1 w1 K hk hK
        have d93 : a1.tmps.getD 93 undef = .slice (some ⟨g, 0, none⟩) m c := hk.deps ⟨1, .data⟩ (by simp) rfl _ _ rfl rfl
        have d94 : a1.tmps.getD 94 undef = .int .i64 (mm : Nat) := hk.deps ⟨2, .data⟩ (by simp) rfl _ _ rfl rfl
        simp [Region.wanted, Oper.wp, Act.eval, go_sem, d93, d94, k0, k1, q0, q1, hh1, hh2, ha1, ha2, hgl, hent]
        exact hK _ _ (Below.refl _ _) rfl
        | 4, _ =>
        obtain rfl := Option.some.inj hoq
        intro a1 w1 K hk hK
        have d95 : a1.tmps.getD 95 undef = .pointer (some ⟨g, mm * 2, none⟩) := hk.deps ⟨3, .data⟩ (by simp) rfl _ _ rfl rfl
        have c0 : w1.cell? ⟨g, mm * 2, none⟩ = some (.slice Ax px.length cx) := Below.keeps hk.ext _ _ (by simp [go_sem, k0, k1, q0, q1, hh1, hh2, ha1, ha2, hgl, hent])
        have c1 : w1.cell? ⟨g, mm * 2 + 1, none⟩ = some (.int .u64 (vx : Nat)) := Below.keeps hk.ext _ _ (by simp [go_sem, k0, k1, q0, q1, hh1, hh2, ha1, ha2, hgl, hent])
        have c2 : w1.cell? ⟨g, h * 2, none⟩ = some (.slice Ay py.length cy) := Below.keeps hk.ext _ _ (by simp [go_sem, k0, k1, q0, q1, hh1, hh2, ha1, ha2, hgl, hent])
        have c3 : w1.cell? ⟨g, h * 2 + 1, none⟩ = some (.int .u64 (vy : Nat)) := Below.keeps hk.ext _ _ (by simp [go_sem, k0, k1, q0, q1, hh1, hh2, ha1, ha2, hgl, hent])
        simp [Region.wanted, Oper.wp, Act.eval, go_sem, d95, c0, c1, c2, c3, k0, k1, q0, q1, hh1, hh2, ha1, ha2, hgl, hent]
        exact hK _ _ (Below.refl _ _) rfl
        | 5, _ =>
        obtain rfl := Option.some.inj hoq
        intro a1 w1 K hk hK
        have e0 : a1.tmps.getD 0 undef = .slice (some ⟨g, 0, none⟩) m c := hk.same 0 (by simp)
        simp [Region.wanted, Oper.wp, Act.eval, go_sem, e0, k0, k1, q0, q1, hh1, hh2, ha1, ha2, hgl, hent]
        exact hK _ _ (Below.refl _ _) rfl
        | 6, _ =>
        obtain rfl := Option.some.inj hoq
        intro a1 w1 K hk hK
        have e16 : a1.tmps.getD 16 undef = .int .i64 (h : Nat) := hk.same 16 (by simp)
        simp [Region.wanted, Oper.wp, Act.eval, go_sem, e16, k0, k1, q0, q1, hh1, hh2, ha1, ha2, hgl, hent]
        exact hK _ _ (Below.refl _ _) rfl
        | 7, _ =>
        obtain rfl := Option.some.inj hoq
        intro a1 w1 K hk hK
        have d97 : a1.tmps.getD 97 undef = .slice (some ⟨g, 0, none⟩) m c := hk.deps ⟨5, .data⟩ (by simp) rfl _ _ rfl rfl
        have d98 : a1.tmps.getD 98 undef = .int .i64 (h : Nat) := hk.deps ⟨6, .data⟩ (by simp) rfl _ _ rfl rfl
        simp [Region.wanted, Oper.wp, Act.eval, go_sem, d97, d98, k0, k1, q0, q1, hh1, hh2, ha1, ha2, hgl, hent]
        exact hK _ _ (Below.refl _ _) rfl
        | 8, _ =>
        obtain rfl := Option.some.inj hoq
        intro a1 w1 K hk hK
        have d99 : a1.tmps.getD 99 undef = .pointer (some ⟨g, h * 2, none⟩) := hk.deps ⟨7, .data⟩ (by simp) rfl _ _ rfl rfl
        have c0 : w1.cell? ⟨g, mm * 2, none⟩ = some (.slice Ax px.length cx) := Below.keeps hk.ext _ _ (by simp [go_sem, k0, k1, q0, q1, hh1, hh2, ha1, ha2, hgl, hent])
        have c1 : w1.cell? ⟨g, mm * 2 + 1, none⟩ = some (.int .u64 (vx : Nat)) := Below.keeps hk.ext _ _ (by simp [go_sem, k0, k1, q0, q1, hh1, hh2, ha1, ha2, hgl, hent])
        have c2 : w1.cell? ⟨g, h * 2, none⟩ = some (.slice Ay py.length cy) := Below.keeps hk.ext _ _ (by simp [go_sem, k0, k1, q0, q1, hh1, hh2, ha1, ha2, hgl, hent])
        have c3 : w1.cell? ⟨g, h * 2 + 1, none⟩ = some (.int .u64 (vy : Nat)) := Below.keeps hk.ext _ _ (by simp [go_sem, k0, k1, q0, q1, hh1, hh2, ha1, ha2, hgl, hent])
        simp [Region.wanted, Oper.wp, Act.eval, go_sem, d99, c0, c1, c2, c3, k0, k1, q0, q1, hh1, hh2, ha1, ha2, hgl, hent]
        exact hK _ _ (Below.refl _ _) rfl
        | 9, _ =>
        obtain rfl := Option.some.inj hoq
        intro a1 w1 K hk hK
        have d92 : a1.tmps.getD 92 undef = .func (.func 119) #[] #[] := hk.deps ⟨0, .data⟩ (by simp) rfl _ _ rfl rfl
        have d96 : a1.tmps.getD 96 undef = .agg #[.slice Ax px.length cx, .int .u64 (vx : Nat)] := hk.deps ⟨4, .data⟩ (by simp) rfl _ _ rfl rfl
        have d100 : a1.tmps.getD 100 undef = .agg #[.slice Ay py.length cy, .int .u64 (vy : Nat)] := hk.deps ⟨8, .data⟩ (by simp) rfl _ _ rfl rfl
        simp [Region.wanted, Oper.wp, Act.eval, go_sem, d92, d96, d100, k0, k1, q0, q1, hh1, hh2, ha1, ha2, hgl, hent]
        refine (HOR.out _ (below_trans (by repeat (first | exact Below.refl _ _ | (refine Below.drew ?_) | (refine below_drewN' ?_ _) | (refine below_alloc' ?_ _) | (refine Below.setCell ?_ (by first | exact Nat.le_refl _ | (simp; done) | (simp; omega)) _))) hk.ext)).mono ?_
        rintro e w9 ⟨rfl, hb9⟩
        exact hK _ _ hb9 rfl
      · intro vs w3 hl hb3 hv
        match vs, hl with
        | [v0, v1, v2, v3, v4, v5, v6, v7, v8, v9], _ =>
        obtain rfl : v0 = .func (.func 119) #[] #[] := hv 0 (by omega)
        obtain rfl : v1 = .slice (some ⟨g, 0, none⟩) m c := hv 1 (by omega)
        obtain rfl : v2 = .int .i64 (mm : Nat) := hv 2 (by omega)
        obtain rfl : v3 = .pointer (some ⟨g, mm * 2, none⟩) := hv 3 (by omega)
        obtain rfl : v4 = .agg #[.slice Ax px.length cx, .int .u64 (vx : Nat)] := hv 4 (by omega)
        obtain rfl : v5 = .slice (some ⟨g, 0, none⟩) m c := hv 5 (by omega)
        obtain rfl : v6 = .int .i64 (h : Nat) := hv 6 (by omega)
        obtain rfl : v7 = .pointer (some ⟨g, h * 2, none⟩) := hv 7 (by omega)
        obtain rfl : v8 = .agg #[.slice Ay py.length cy, .int .u64 (vy : Nat)] := hv 8 (by omega)
        obtain rfl : v9 = .int .i64 z := hv 9 (by omega)
        clear hv
        simp only [putAll, List.take_succ_cons, List.take_zero, List.drop_succ_cons, List.drop_zero, Act.put, List.setIfInBounds_toArray, List.set_cons_succ, List.set_cons_zero]
        have HP3 := Lib.hid (HI.out.2.2.2.2.step (show Below wr.heap.size wr w3 from hb3))
        clear hb3 hth k0 k1 q0 q1 hgl
        by_cases hz0 : z < 0
        · have HL := Lib.hid (HGE.out (HZ.out.1 hz0))
          go_wp2_with fail
          go_roundw
          case rel =>
            obtain ⟨n1, n2, n3, n4, n5⟩ := HN.out
            exact ⟨q, t, by rw [n1], by rw [n3], by omega, by omega, HI.out.2.2.1, HL.out, HP3.out⟩
          case measure =>
            obtain ⟨n1, n2, n3, n4, n5⟩ := HN.out
            rw [intOf_nat, intOf_nat, intOf_nat]; omega
        · have HL := Lib.hid (HLT.out (fun h => hz0 (HZ.out.2 h)))
          go_wp2_with fail
          go_roundw
          case rel =>
            obtain ⟨n1, n2, n3, n4, n5⟩ := HN.out
            exact ⟨t + 1, r, by rw [HW2.out]; congr 2; omega, by rw [n2], by omega, HI.out.2.1, HL.out, HI.out.2.2.2.1, HP3.out⟩
          case measure =>
            obtain ⟨n1, n2, n3, n4, n5⟩ := HN.out
            rw [intOf_nat, intOf_of' HW2.out, intOf_nat]; omega
    · obtain rfl : q = r := by omega
      obtain ⟨d1, d2, d3, d4, d5⟩ := HD.out
      obtain ⟨i, hi⟩ : ∃ i, a + q = i := ⟨_, rfl⟩
      have hij : ¬ (i : Int) < (i : Int) := by omega
      have HJ := Lib.hid (And.intro hi hrl)
      rw [hi]
      have HF := Lib.hid (show ∀ w', PR W0 w' g n (X ++ (A.take q ++ (x :: (A.drop q ++ Y)))) → MrgR W0 g n X (A ++ [x]) Y (.returned (.tuple #[])) w' from fun w' hp => by
        have h1 : ∀ y ∈ A.take q, ek y ≤ ek x := fun y hy => by
          obtain ⟨i, hi, rfl⟩ := List.mem_iff_getElem.1 hy
          rw [List.length_take] at hi
          rw [List.getElem_take]
          exact hlo i (by omega) (by omega)
        have h2 : ∀ y ∈ A.drop q, ek x < ek y := fun y hy => by
          obtain ⟨i, hi, rfl⟩ := List.mem_iff_getElem.1 hy
          rw [List.length_drop] at hi
          rw [List.getElem_drop]
          exact hhi (q + i) (by omega) (by omega)
        have h3 := HK.out.2.2.2
        rw [← List.take_append_drop q A] at h3
        obtain ⟨s1, s2, s3⟩ := List.pairwise_append.1 h3
        refine ⟨A.take q ++ (x :: A.drop q), rfl, by simpa using hp, by simp; omega, ?_, ?_⟩
        · have e := Stb.swap (X := A.drop q) (Y := [x]) (fun u hu v hv => by obtain rfl := List.mem_singleton.1 hv; have := h2 u hu; omega)
          have e2 := (Stb.refl (A.take q)).append e
          rw [← List.append_assoc, List.take_append_drop] at e2
          simpa using e2
        · refine List.pairwise_append.2 ⟨s1, List.pairwise_cons.2 ⟨fun y hy => Nat.le_of_lt (h2 y hy), s2⟩, fun u hu v hv => ?_⟩
          rcases List.mem_cons.1 hv with rfl | hv
          · exact h1 u hu
          · exact s3 u hu v hv)
      clear hlo hhi hpr hqr hi d1 d2 d3 d4 d5
      go_wp2_with fail
      go_loopw [17] (fun kv wr => ∃ s : Nat, q ≤ s ∧ s ≤ A.length ∧ kv = .int .i64 ((a + s : Nat) : Int) ∧ PR W0 wr g n (X ++ (A.take s ++ (x :: (A.drop s ++ Y))))) (fun kv _ => (intOf kv).toNat)
      case atStart => exact ⟨A.length, HJ.out.2, Nat.le_refl _, by rw [HD.out.2.1], by simpa using HI.out.2.2.2.2⟩
      case round =>
        obtain ⟨s, hs, hsl, rfl, hpr⟩ := hrel
        have HS := Lib.hid (And.intro hs hpr)
        obtain ⟨d1, d2, d3, d4, d5⟩ := HD.out
        have hj1 := HJ.out.1
        by_cases hsq : q < s
        · obtain ⟨s', hs'⟩ : ∃ s', s = s' + 1 := ⟨s - 1, by omega⟩
          subst hs'
          have hsB : s' < A.length := by omega
          obtain ⟨y, hy⟩ : ∃ y, A[s'] = y := ⟨_, rfl⟩
          have e1 : X ++ (A.take (s' + 1) ++ (x :: (A.drop (s' + 1) ++ Y))) = (X ++ A.take s') ++ y :: x :: (A.drop (s' + 1) ++ Y) := by rw [← List.take_append_getElem hsB, hy]; simp
          have e2 : X ++ (A.take s' ++ (x :: (A.drop s' ++ Y))) = (X ++ A.take s') ++ x :: y :: (A.drop (s' + 1) ++ Y) := by rw [← List.getElem_cons_drop hsB, hy]; simp
          obtain ⟨p, hp⟩ : ∃ p, a + s' = p := ⟨_, rfl⟩
          obtain ⟨e, he⟩ : ∃ e, a + (s' + 1) = e := ⟨_, rfl⟩
          have hlen : (X ++ A.take s').length = p := by simp; omega
          have hpr2 := hpr
          rw [e1] at hpr2
          have ey : ((X ++ A.take s') ++ y :: x :: (A.drop (s' + 1) ++ Y))[p]? = some y := by rw [List.getElem?_append_right (by omega), show p - (X ++ A.take s').length = 0 by omega]; rfl
          have ex : ((X ++ A.take s') ++ y :: x :: (A.drop (s' + 1) ++ Y))[e]? = some x := by rw [List.getElem?_append_right (by omega), show e - (X ++ A.take s').length = 1 by omega]; rfl
          obtain ⟨k0, k1, ry⟩ := hpr2.at2 p _ ey
          obtain ⟨q0, q1, rx⟩ := hpr2.at2 e _ ex
          have hpl : p + 1 < ((X ++ A.take s') ++ y :: x :: (A.drop (s' + 1) ++ Y)).length := by rw [List.length_append]; simp; omega
          have hep : e = p + 1 := by omega
          have HSET := Lib.hid (show PR W0 ((((wr.setCell ⟨g, e * 2, none⟩ y.1).setCell ⟨g, e * 2 + 1, none⟩ (.int .u64 (y.2.v : Nat))).setCell ⟨g, p * 2, none⟩ x.1).setCell ⟨g, p * 2 + 1, none⟩ (.int .u64 (x.2.v : Nat))) g n (X ++ (A.take s' ++ (x :: (A.drop s' ++ Y)))) from by
            have h9 := (hpr2.set (j := e) (by omega) y ry).set (j := p) (by rw [List.length_set]; omega) x rx
            have h8 := swap_mid (X ++ A.take s') y x (A.drop (s' + 1) ++ Y)
            rw [hlen, ← hep] at h8
            rw [h8, ← e2] at h9
            exact h9)
          have hth := fun r => hpr.thaw r
          have hgl := hpr.lt
          obtain ⟨ux, px, vx⟩ := x
          obtain ⟨uy, py, vy⟩ := y
          simp only at k0 k1 q0 q1 rx ry
          have hp1 : (e : Int) > (i : Int) := by omega
          have hp2 : (p : Int) < (m : Int) := by omega
          have hp3 : (0 : Int) ≤ (p : Int) := by omega
          have hp4 : (e : Int) < (m : Int) := by omega
          have hp5 : (0 : Int) ≤ (e : Int) := by omega
          have hp8 : ¬ e = p := by omega
          have HPN := Lib.hid (show q ≤ s' ∧ s' ≤ A.length ∧ p = a + s' ∧ ((p : Nat) : Int).toNat < ((e : Nat) : Int).toNat from by omega)
          have HW4 := Lib.hid (show wrap64 ((e : Int) - 1) = (p : Int) from by have := wrap_sub (a := e) (i := 1) (p := p) (by omega) (by omega); exact this)
          obtain ⟨Ax, cx, rfl, _⟩ := RdU.point rx
          obtain ⟨Ay, cy, rfl, _⟩ := RdU.point ry
          rw [he]
          have hw4 := HW4.out
          clear hpr hpr2 hy e1 e2 ex ey rx ry hp he hep hlen hpl hs d1 d2 d3 d4 d5 hsq hj1 hsl hsB
          go_wp2_with fail
          go_region
          go_wp2_with fail
          refine ⟨⟨s', HPN.out.1, HPN.out.2.1, by rw [hw4, HPN.out.2.2.1], HSET.out.step (by repeat (first | exact Below.refl _ _ | (refine Below.drew ?_) | (refine below_drewN' ?_ _)))⟩, ?_⟩
          rw [intOf_of' hw4, intOf_nat]
          exact HPN.out.2.2.2
        · obtain rfl : s = q := by omega
          have hp1 : ¬ (i : Int) > (i : Int) := by omega
          rw [hj1]
          clear hpr hs d1 d2 d3 d4 d5 hj1
          go_wp2_with fail
          go_end0
          exact HF.out _ HS.out.2
end Go.Proofs.YtjokcagggmjgmaaGreat
/-! SrtI -/
namespace Go.Proofs.YtjokcagggmjgmaaGreat
open Go.RowKit
set_option linter.unusedVariables false
set_option linter.unusedSimpArgs false
set_option maxRecDepth 100000

/-- the key at a place -/
def kAt (l : List Pe) (i : Nat) : Nat := ((l[i]?).map ek).getD 0
theorem kAt_eq {l : List Pe} {i : Nat} (h : i < l.length) : kAt l i = ek l[i] := by unfold kAt; rw [List.getElem?_eq_getElem h]; rfl
theorem Srt.kAt {l : List Pe} (h : Srt l) {i j : Nat} (hij : i ≤ j) (hj : j < l.length) : Go.Proofs.YtjokcagggmjgmaaGreat.kAt l i ≤ Go.Proofs.YtjokcagggmjgmaaGreat.kAt l j := by
  rw [kAt_eq (by omega), kAt_eq hj]
  by_cases e : i = j
  · subst e; exact Nat.le_refl _
  · exact List.pairwise_iff_getElem.1 h i j (by omega) hj (by omega)
/-- where the runs are cut: the places -/
structure CutB (a mm b mid lo hi : Nat) : Prop where
  md : mid = (a + b) / 2
  am : a < mm
  mb : mm < b
  la : a ≤ lo
  lh : lo ≤ hi
  hm : hi ≤ mm
  hd : hi ≤ mid
  lb : mid + mm ≤ lo + b
  e1 : lo = a ∨ lo + b = mid + mm
  e2 : hi = mid ∨ hi = mm
theorem CutB.of {a mm b mid : Nat} (md : mid = (a + b) / 2) (am : a < mm) (mb : mm < b) : CutB a mm b mid (if mm > mid then mid + mm - b else a) (if mm > mid then mid else mm) := by
  by_cases h : mm > mid
  · rw [if_pos h, if_pos h]
    exact ⟨md, am, mb, by omega, by omega, by omega, by omega, by omega, by omega, by omega⟩
  · rw [if_neg h, if_neg h]
    exact ⟨md, am, mb, by omega, by omega, by omega, by omega, by omega, by omega, by omega⟩
/-- what is known of the search -/
structure CutI (A B : List Pe) (a mm b mid lo hi st r : Nat) : Prop where
  l1 : lo ≤ st
  l2 : st ≤ r
  l3 : r ≤ hi
  low : ∀ c, lo ≤ c → c < st → kAt A (c - a) ≤ kAt B (mid + mm - 1 - c - mm)
  high : ∀ c, r ≤ c → c < hi → kAt B (mid + mm - 1 - c - mm) < kAt A (c - a)
theorem CutI.up {A B : List Pe} {a mm b mid lo hi st r c : Nat} (h : CutI A B a mm b mid lo hi st r) (hb : CutB a mm b mid lo hi) (hA : Srt A) (hB : Srt B) (la : a + A.length = mm) (lb : mm + B.length = b) (h1 : st ≤ c) (h2 : c < r)
    (hc : ¬ kAt B (mid + mm - 1 - c - mm) < kAt A (c - a)) : CutI A B a mm b mid lo hi (c + 1) r := by
  obtain ⟨x1, x2, x3, x4, x5, x6, x7, x8, _, _⟩ := hb
  obtain ⟨y1, y2, y3, y4, y5⟩ := h
  refine ⟨by omega, by omega, y3, fun d d1 d2 => ?_, y5⟩
  have z1 := hA.kAt (i := d - a) (j := c - a) (by omega) (by omega)
  have z2 := hB.kAt (i := mid + mm - 1 - c - mm) (j := mid + mm - 1 - d - mm) (by omega) (by omega)
  omega
theorem CutI.down {A B : List Pe} {a mm b mid lo hi st r c : Nat} (h : CutI A B a mm b mid lo hi st r) (hb : CutB a mm b mid lo hi) (hA : Srt A) (hB : Srt B) (la : a + A.length = mm) (lb : mm + B.length = b) (h1 : st ≤ c) (h2 : c < r)
    (hc : kAt B (mid + mm - 1 - c - mm) < kAt A (c - a)) : CutI A B a mm b mid lo hi st c := by
  obtain ⟨x1, x2, x3, x4, x5, x6, x7, x8, _, _⟩ := hb
  obtain ⟨y1, y2, y3, y4, y5⟩ := h
  refine ⟨y1, by omega, by omega, y4, fun d d1 d2 => ?_⟩
  have z1 := hA.kAt (i := c - a) (j := d - a) (by omega) (by omega)
  have z2 := hB.kAt (i := mid + mm - 1 - d - mm) (j := mid + mm - 1 - c - mm) (by omega) (by omega)
  omega
/-- the runs, cut -/
structure CutR (A B A1 A2 B1 B2 : List Pe) (a mm b mid st : Nat) : Prop where
  ea : A = A1 ++ A2
  eb : B = B1 ++ B2
  l1 : a + A1.length = st
  l2 : st + A2.length = mm
  l3 : st + B1.length = mid
  l4 : mid + A2.length + B2.length = b
  lt : ∀ x ∈ B1, ∀ y ∈ A2, ek x < ek y
  le : ∀ x ∈ A1, ∀ y ∈ B2, ek x ≤ ek y
theorem mem_kAt {l : List Pe} {x : Pe} (h : x ∈ l) : ∃ i, i < l.length ∧ ek x = kAt l i := by
  obtain ⟨i, hi, rfl⟩ := List.mem_iff_getElem.1 h
  exact ⟨i, hi, (kAt_eq hi).symm⟩
theorem kAt_left {l m : List Pe} {i : Nat} (h : i < l.length) : kAt (l ++ m) i = kAt l i := by unfold kAt; rw [List.getElem?_append_left h]
theorem kAt_right {l m : List Pe} {i : Nat} : kAt (l ++ m) (l.length + i) = kAt m i := by unfold kAt; rw [List.getElem?_append_right (by omega), Nat.add_sub_cancel_left]
theorem CutI.cut {A B : List Pe} {a mm b mid lo hi st : Nat} (h : CutI A B a mm b mid lo hi st st) (hb : CutB a mm b mid lo hi) (hA : Srt A) (hB : Srt B) (la : a + A.length = mm) (lb : mm + B.length = b) :
    CutR A B (A.take (st - a)) (A.drop (st - a)) (B.take (mid - st)) (B.drop (mid - st)) a mm b mid st := by
  obtain ⟨x1, x2, x3, x4, x5, x6, x7, x8, x9, x10⟩ := hb
  obtain ⟨y1, y2, y3, y4, y5⟩ := h
  have q1 : (A.take (st - a)).length = st - a := by rw [List.length_take]; omega
  have q2 : (B.take (mid - st)).length = mid - st := by rw [List.length_take]; omega
  have eA : A = A.take (st - a) ++ A.drop (st - a) := (List.take_append_drop _ _).symm
  have eB : B = B.take (mid - st) ++ B.drop (mid - st) := (List.take_append_drop _ _).symm
  refine ⟨eA, eB, by omega, by rw [List.length_drop]; omega, by omega, by rw [List.length_drop, List.length_drop]; omega, fun x hx y hy => ?_, fun x hx y hy => ?_⟩
  · obtain ⟨i, hi, ei⟩ := mem_kAt hx
    obtain ⟨j, hj, ej⟩ := mem_kAt hy
    have e1 := kAt_left (m := B.drop (mid - st)) hi
    have e2 := kAt_right (l := A.take (st - a)) (m := A.drop (st - a)) (i := j)
    rw [← eB] at e1
    rw [← eA, q1] at e2
    rw [ei, ej, ← e1, ← e2]
    rw [q2] at hi
    rw [List.length_drop] at hj
    have z0 := y5 st (Nat.le_refl _) (by omega)
    have z1 := hA.kAt (i := st - a) (j := st - a + j) (by omega) (by omega)
    have z2 := hB.kAt (i := i) (j := mid + mm - 1 - st - mm) (by omega) (by omega)
    omega
  · obtain ⟨i, hi, ei⟩ := mem_kAt hx
    obtain ⟨j, hj, ej⟩ := mem_kAt hy
    have e1 := kAt_left (m := A.drop (st - a)) hi
    have e2 := kAt_right (l := B.take (mid - st)) (m := B.drop (mid - st)) (i := j)
    rw [← eA] at e1
    rw [← eB, q2] at e2
    rw [ei, ej, ← e1, ← e2]
    rw [q1] at hi
    rw [List.length_drop] at hj
    have z0 := y4 (st - 1) (by omega) (by omega)
    have z1 := hA.kAt (i := i) (j := st - 1 - a) (by omega) (by omega)
    have z2 := hB.kAt (i := mid + mm - 1 - (st - 1) - mm) (j := mid - st + j) (by omega) (by omega)
    omega
end Go.Proofs.YtjokcagggmjgmaaGreat
/-! SrtJ -/
namespace Go.Proofs.YtjokcagggmjgmaaGreat
open Go.RowKit
set_option linter.unusedVariables false
set_option linter.unusedSimpArgs false
set_option maxRecDepth 100000

/-- one half is done -/
structure Half (W0 w : World) (g n : Nat) (X L M Y : List Pe) : Prop where
  pr : PR W0 w g n (X ++ (M ++ Y))
  len : M.length = L.length
  stb : Stb L M
  srt : Srt M
theorem wrapi_sub {a i p : Nat} (h : p + i = a) (hb : a ≤ 100000) : IntKind.i64.wrap ((a : Int) - (i : Int)) = (p : Int) := by rw [IntKind.wrap_i64]; omega
set_option maxHeartbeats 16000000 in
theorem sym_gen (W0 w : World) (g n a mm b m c k : Nat) (X A B Y : List Pe) (ha : X.length = a) (hmm : a + A.length = mm) (hb : mm + B.length = b) (hm : b + Y.length = m) (hmx : m ≤ 1000) (hA2 : 2 ≤ A.length) (hB2 : 2 ≤ B.length) (k1 : 1 ≤ k) (k16 : k ≤ 16)
    (h : PR W0 w g n (X ++ (A ++ (B ++ Y)))) (hk : ∀ x' ∈ X ++ (A ++ (B ++ Y)), x'.2.p.length = k ∧ ∀ q ∈ x'.2.p, q < 2 ^ 64) (hA : Srt A) (hB : Srt B)
    (ih : ∀ (w' : World) (a' mm' b' : Nat) (X' A' B' Y' : List Pe), A'.length + B'.length < A.length + B.length → X'.length = a' → a' + A'.length = mm' → mm' + B'.length = b' → b' + Y'.length = m → A' ≠ [] → B' ≠ [] → PR W0 w' g n (X' ++ (A' ++ (B' ++ Y'))) →
      (∀ x' ∈ X' ++ (A' ++ (B' ++ Y')), x'.2.p.length = k ∧ ∀ q ∈ x'.2.p, q < 2 ^ 64) → Srt A' → Srt B' → Calls Tryz.prog 179 #[.slice (some ⟨g, 0, none⟩) m c, .int .i64 (a' : Nat), .int .i64 (mm' : Nat), .int .i64 (b' : Nat), .func (.func 119) #[] #[]] w' fun e w'' => MrgR W0 g n X' (A' ++ B') Y' e w'') :
    Calls Tryz.prog 179 #[.slice (some ⟨g, 0, none⟩) m c, .int .i64 (a : Nat), .int .i64 (mm : Nat), .int .i64 (b : Nat), .func (.func 119) #[] #[]] w fun e w' => MrgR W0 g n X (A ++ B) Y e w' := by
  have hent := enters_lit' Tryz.func119 (by kernel_rfl) (by kernel_rfl)
  have HP00 := Lib.hid h
  have HD := Lib.hid (And.intro ha (And.intro hmm (And.intro hb (And.intro hm hmx))))
  have HK := Lib.hid (And.intro hk (And.intro k1 (And.intro k16 (And.intro hA hB))))
  have HIH := Lib.hid ih
  obtain ⟨la, hla⟩ : ∃ la, A.length = la := ⟨_, rfl⟩
  obtain ⟨lb, hlb⟩ : ∃ lb, B.length = lb := ⟨_, rfl⟩
  have hl1 : ¬ (la : Int) = 1 := by omega
  have hl2 : ((la : Int) == 1) = false := by simpa using hl1
  have hl3 : ¬ (lb : Int) = 1 := by omega
  have hl4 : ((lb : Int) == 1) = false := by simpa using hl3
  obtain ⟨mid, hmid⟩ : ∃ mid, mid = (a + b) / 2 := ⟨_, rfl⟩
  obtain ⟨N, hN⟩ : ∃ N, N = mid + mm := ⟨_, rfl⟩
  have hcb := CutB.of (mm := mm) hmid (by omega) (by omega)
  obtain ⟨lo, hlo⟩ : ∃ lo, (if mm > mid then mid + mm - b else a) = lo := ⟨_, rfl⟩
  obtain ⟨hi, hhi⟩ : ∃ hi, (if mm > mid then mid else mm) = hi := ⟨_, rfl⟩
  rw [hlo, hhi] at hcb
  have HCB := Lib.hid hcb
  have hmain : (mm > mid ∧ lo = N - b ∧ hi = mid) ∨ (¬ mm > mid ∧ lo = a ∧ hi = mm) := by
    by_cases h9 : mm > mid
    · rw [if_pos h9] at hlo hhi; exact .inl ⟨h9, by omega, by omega⟩
    · rw [if_neg h9] at hlo hhi; exact .inr ⟨h9, by omega, by omega⟩
  have HNE := Lib.hid hN
  obtain ⟨p, hp⟩ : ∃ p, p + 1 = N := ⟨N - 1, by have := hcb.am; omega⟩
  have HPN := Lib.hid hp
  have HW1 := Lib.hid (show wrap64 ((mm : Int) - (a : Int)) = (la : Int) from wrap_sub (by omega) (by omega))
  have HW2 := Lib.hid (show wrap64 ((b : Int) - (mm : Int)) = (lb : Int) from wrap_sub (by omega) (by omega))
  have HMD := Lib.hid (mid_eq hmid.symm (by omega))
  have HNN := Lib.hid (show wrap64 ((mid : Int) + (mm : Int)) = (N : Int) from wrap_add (by omega) (by omega))
  have HP := Lib.hid (show wrap64 ((N : Int) - 1) = (p : Int) from by have := wrap_sub (a := N) (i := 1) (p := p) (by omega) (by omega); exact this)
  have HNB := Lib.hid (show (mm : Int) > (mid : Int) → wrap64 ((N : Int) - (b : Int)) = (lo : Int) from fun h => wrap_sub (by have := hcb.lb; rcases hmain with ⟨h1, h2, h3⟩ | ⟨h1, h2, h3⟩ <;> omega) (by omega))
  have H0 := Lib.hid (show CutI A B a mm b mid lo hi lo hi from ⟨Nat.le_refl _, hcb.lh, Nat.le_refl _, fun c h1 h2 => by omega, fun c h1 h2 => by omega⟩)
  have hbr : ((mm : Int) > (mid : Int) ∧ lo = N - b ∧ hi = mid) ∨ (¬ (mm : Int) > (mid : Int) ∧ lo = a ∧ hi = mm) := by omega
  clear hp ha hmm hb hm hmx k1 k16 h hk hA hB hA2 hB2 hla hlb ih hmid hN hcb hlo hhi hmain
  have hw1 := HW1.out
  have hw2 := HW2.out
  have hw3 := HMD.out
  rcases hbr with ⟨hgt, hl0, hh0⟩ | ⟨hgt, hl0, hh0⟩
  all_goals
    have HLH := Lib.hid (And.intro hl0 hh0)
    clear hl0 hh0
    go_enter Tryz.func179, Tryz.ntmps179
    go_wp2_with fail
    clear hw1 hw2 hw3
    (try rw [HMD.out])
    (try rw [HNN.out])
    (try rw [HP.out])
    (try rw [HNB.out hgt])
    go_loopw [20, 21, 23] (fun sv rv _ wr => ∃ st r : Nat, sv = .int .i64 (st : Nat) ∧ rv = .int .i64 (r : Nat) ∧ CutI A B a mm b mid lo hi st r ∧ PR W0 wr g n (X ++ (A ++ (B ++ Y)))) (fun sv rv _ _ => (intOf rv).toNat - (intOf sv).toNat)
    case atStart => exact ⟨lo, hi, by first | rfl | rw [HLH.out.1], by first | rfl | rw [HLH.out.2], H0.out, HP00.out⟩
    case round =>
      obtain ⟨st, r, rfl, rfl, hI, hpr⟩ := hrel
      have HI := Lib.hid (And.intro hI hpr)
      by_cases hlt : st < r
      · obtain ⟨d1, d2, d3, d4, d5⟩ := HD.out
        have hcb := HCB.out
        have hNm := HNE.out
        have hpN := HPN.out
        obtain ⟨c9, hc9⟩ : ∃ c9, (st + r) / 2 = c9 := ⟨_, rfl⟩
        obtain ⟨i1, i2, i3, _, _⟩ := id hI
        obtain ⟨b1, b2, b3, b4, b5, b6, b7, b8, _, _⟩ := hcb
        obtain ⟨d, hd⟩ : ∃ d, c9 + d = p := ⟨p - c9, by omega⟩
        have hcA : c9 - a < A.length := by omega
        have hdB : d - mm < B.length := by omega
        have ey : (X ++ (A ++ (B ++ Y)))[d]? = some B[d - mm] := by
          rw [List.getElem?_append_right (by omega), List.getElem?_append_right (by omega), List.getElem?_append_left (by omega), show d - X.length - A.length = d - mm by omega, List.getElem?_eq_getElem hdB]
        have ex : (X ++ (A ++ (B ++ Y)))[c9]? = some A[c9 - a] := by
          rw [List.getElem?_append_right (by omega), List.getElem?_append_left (by omega), show c9 - X.length = c9 - a by omega, List.getElem?_eq_getElem hcA]
        obtain ⟨k0, k1, ry⟩ := hpr.at2 d _ ey
        obtain ⟨q0, q1, rx⟩ := hpr.at2 c9 _ ex
        have HOR := Lib.hid (ord_row hpr (List.mem_of_getElem? ey) (List.mem_of_getElem? ex) HK.out.2.1 HK.out.2.2.1 HK.out.1)
        have hdm : mid + mm - 1 - c9 - mm = d - mm := by omega
        have eB : kAt B (mid + mm - 1 - c9 - mm) = ek B[d - mm] := by rw [hdm]; exact kAt_eq hdB
        have eA : kAt A (c9 - a) = ek A[c9 - a] := kAt_eq hcA
        have HUP := Lib.hid (show ¬ ek B[d - mm] < ek A[c9 - a] → CutI A B a mm b mid lo hi (c9 + 1) r from fun h => hI.up HCB.out HK.out.2.2.2.1 HK.out.2.2.2.2 d2 d3 (by omega) (by omega) (by rw [eB, eA]; exact h))
        have HDN := Lib.hid (show ek B[d - mm] < ek A[c9 - a] → CutI A B a mm b mid lo hi st c9 from fun h => hI.down HCB.out HK.out.2.2.2.1 HK.out.2.2.2.2 d2 d3 (by omega) (by omega) (by rw [eB, eA]; exact h))
        have hth := fun r => hpr.thaw r
        have hgl := hpr.lt
        generalize A[c9 - a] = x at *
        generalize B[d - mm] = y at *
        obtain ⟨ux, px, vx⟩ := x
        obtain ⟨uy, py, vy⟩ := y
        simp only at k0 k1 q0 q1 rx ry HOR
        obtain ⟨z, hz⟩ : ∃ z, Zb.cmp py px = z := ⟨_, rfl⟩
        rw [hz] at HOR
        have HZ := Lib.hid (show z < 0 ↔ pkey py < pkey px from hz ▸ cmp_neg py px)
        have hij : (st : Int) < (r : Int) := by omega
        have hh1 : (d : Int) < (m : Int) := by omega
        have hh2 : (0 : Int) ≤ (d : Int) := by omega
        have ha1 : (c9 : Int) < (m : Int) := by omega
        have ha2 : (0 : Int) ≤ (c9 : Int) := by omega
        have HN := Lib.hid (show r - (c9 + 1) < r - st ∧ c9 - st < r - st from by omega)
        have HW2 := Lib.hid (show wrap64 ((c9 : Int) + 1) = ((c9 + 1 : Nat) : Int) from wrap_succ (by omega))
        have HDW := Lib.hid (show wrap64 ((p : Int) - (c9 : Int)) = (d : Int) from wrap_sub (by omega) (by omega))
        have HDW2 := Lib.hid (show IntKind.i64.wrap ((p : Int) - (c9 : Int)) = (d : Int) from wrapi_sub (by omega) (by omega))
        have HMW := Lib.hid (mid_eq hc9 (by omega))
        obtain ⟨Ax, cx, rfl, _⟩ := RdU.point rx
        obtain ⟨Ay, cy, rfl, _⟩ := RdU.point ry
        clear hI hpr hz ey ex rx ry hc9 hd hcA hdB hdm eB eA hlt d1 d2 d3 d4 d5 b1 b2 b3 b4 b5 b6 b7 b8 i1 i2 i3 hNm hpN
        go_wp2_with fail
        rw [HMW.out]
        have hdw := HDW.out
        have hdw2 := HDW2.out
        refine wp_region_vals 12 [fun z9 _ => z9 = .func (.func 119) #[] #[],
          fun z9 _ => z9 = .slice (some ⟨g, 0, none⟩) m c,
          fun z9 _ => z9 = .int .i64 (p : Nat),
          fun z9 _ => z9 = .int .i64 (c9 : Nat),
          fun z9 _ => z9 = .int .i64 (d : Nat),
          fun z9 _ => z9 = .pointer (some ⟨g, d * 2, none⟩),
          fun z9 _ => z9 = .agg #[.slice Ay py.length cy, .int .u64 (vy : Nat)],
          fun z9 _ => z9 = .slice (some ⟨g, 0, none⟩) m c,
          fun z9 _ => z9 = .int .i64 (c9 : Nat),
          fun z9 _ => z9 = .pointer (some ⟨g, c9 * 2, none⟩),
          fun z9 _ => z9 = .agg #[.slice Ax px.length cx, .int .u64 (vx : Nat)],
          fun z9 _ => z9 = .int .i64 z]
          (by kernel_rfl) (by kernel_rfl) (by kernel_rfl) (by kernel_rfl) ?_ ?_ ?_
        · intro V hV v w1 w2 h hb
          simp only [List.mem_cons, List.not_mem_nil, or_false] at hV
          rcases hV with rfl | rfl | rfl | rfl | rfl | rfl | rfl | rfl | rfl | rfl | rfl | rfl
          all_goals first | exact h | (exact h)
        · intro iq oq hiq hoq
          match iq, hiq with
          | 0, _ =>
          obtain rfl := Option.some.inj hoq
          intro a1 w1 K hk hK
          have e4 : a1.tmps.getD 4 undef = .func (.func 119) #[] #[] := hk.same 4 (by simp)
          simp [Region.wanted, Oper.wp, Act.eval, go_sem, e4, k0, k1, q0, q1, hh1, hh2, ha1, ha2, hgl, hent, hdw, hdw2]
          exact hK _ _ (Below.refl _ _) rfl
          | 1, _ =>
          obtain rfl := Option.some.inj hoq
          intro a1 w1 K hk hK
          have e0 : a1.tmps.getD 0 undef = .slice (some ⟨g, 0, none⟩) m c := hk.same 0 (by simp)
          simp [Region.wanted, Oper.wp, Act.eval, go_sem, e0, k0, k1, q0, q1, hh1, hh2, ha1, ha2, hgl, hent, hdw, hdw2]
          exact hK _ _ (Below.refl _ _) rfl
          | 2, _ =>
          obtain rfl := Option.some.inj hoq
          intro a1 w1 K hk hK
          have e22 : a1.tmps.getD 22 undef = .int .i64 (p : Nat) := hk.same 22 (by simp)
          simp [Region.wanted, Oper.wp, Act.eval, go_sem, e22, k0, k1, q0, q1, hh1, hh2, ha1, ha2, hgl, hent, hdw, hdw2]
          exact hK _ _ (Below.refl _ _) rfl
          | 3, _ =>
          obtain rfl := Option.some.inj hoq
          intro a1 w1 K hk hK
          have e23 : a1.tmps.getD 23 undef = .int .i64 (c9 : Nat) := hk.same 23 (by simp)
          simp [Region.wanted, Oper.wp, Act.eval, go_sem, e23, k0, k1, q0, q1, hh1, hh2, ha1, ha2, hgl, hent, hdw, hdw2]
          exact hK _ _ (Below.refl _ _) rfl
          | 4, _ =>
          obtain rfl := Option.some.inj hoq
          intro a1 w1 K hk hK
          have d160 : a1.tmps.getD 160 undef = .int .i64 (p : Nat) := hk.deps ⟨2, .data⟩ (by simp) rfl _ _ rfl rfl
          have d161 : a1.tmps.getD 161 undef = .int .i64 (c9 : Nat) := hk.deps ⟨3, .data⟩ (by simp) rfl _ _ rfl rfl
          simp [Region.wanted, Oper.wp, Act.eval, go_sem, d160, d161, k0, k1, q0, q1, hh1, hh2, ha1, ha2, hgl, hent, hdw, hdw2]
          exact hK _ _ (Below.refl _ _) rfl
          | 5, _ =>
          obtain rfl := Option.some.inj hoq
          intro a1 w1 K hk hK
          have d159 : a1.tmps.getD 159 undef = .slice (some ⟨g, 0, none⟩) m c := hk.deps ⟨1, .data⟩ (by simp) rfl _ _ rfl rfl
          have d162 : a1.tmps.getD 162 undef = .int .i64 (d : Nat) := hk.deps ⟨4, .data⟩ (by simp) rfl _ _ rfl rfl
          simp [Region.wanted, Oper.wp, Act.eval, go_sem, d159, d162, k0, k1, q0, q1, hh1, hh2, ha1, ha2, hgl, hent, hdw, hdw2]
          exact hK _ _ (Below.refl _ _) rfl
          | 6, _ =>
          obtain rfl := Option.some.inj hoq
          intro a1 w1 K hk hK
          have d163 : a1.tmps.getD 163 undef = .pointer (some ⟨g, d * 2, none⟩) := hk.deps ⟨5, .data⟩ (by simp) rfl _ _ rfl rfl
          have c0 : w1.cell? ⟨g, d * 2, none⟩ = some (.slice Ay py.length cy) := Below.keeps hk.ext _ _ (by simp [go_sem, k0, k1, q0, q1, hh1, hh2, ha1, ha2, hgl, hent, hdw, hdw2])
          have c1 : w1.cell? ⟨g, d * 2 + 1, none⟩ = some (.int .u64 (vy : Nat)) := Below.keeps hk.ext _ _ (by simp [go_sem, k0, k1, q0, q1, hh1, hh2, ha1, ha2, hgl, hent, hdw, hdw2])
          have c2 : w1.cell? ⟨g, c9 * 2, none⟩ = some (.slice Ax px.length cx) := Below.keeps hk.ext _ _ (by simp [go_sem, k0, k1, q0, q1, hh1, hh2, ha1, ha2, hgl, hent, hdw, hdw2])
          have c3 : w1.cell? ⟨g, c9 * 2 + 1, none⟩ = some (.int .u64 (vx : Nat)) := Below.keeps hk.ext _ _ (by simp [go_sem, k0, k1, q0, q1, hh1, hh2, ha1, ha2, hgl, hent, hdw, hdw2])
          simp [Region.wanted, Oper.wp, Act.eval, go_sem, d163, c0, c1, c2, c3, k0, k1, q0, q1, hh1, hh2, ha1, ha2, hgl, hent, hdw, hdw2]
          exact hK _ _ (Below.refl _ _) rfl
          | 7, _ =>
          obtain rfl := Option.some.inj hoq
          intro a1 w1 K hk hK
          have e0 : a1.tmps.getD 0 undef = .slice (some ⟨g, 0, none⟩) m c := hk.same 0 (by simp)
          simp [Region.wanted, Oper.wp, Act.eval, go_sem, e0, k0, k1, q0, q1, hh1, hh2, ha1, ha2, hgl, hent, hdw, hdw2]
          exact hK _ _ (Below.refl _ _) rfl
          | 8, _ =>
          obtain rfl := Option.some.inj hoq
          intro a1 w1 K hk hK
          have e23 : a1.tmps.getD 23 undef = .int .i64 (c9 : Nat) := hk.same 23 (by simp)
          simp [Region.wanted, Oper.wp, Act.eval, go_sem, e23, k0, k1, q0, q1, hh1, hh2, ha1, ha2, hgl, hent, hdw, hdw2]
          exact hK _ _ (Below.refl _ _) rfl
          | 9, _ =>
          obtain rfl := Option.some.inj hoq
          intro a1 w1 K hk hK
          have d165 : a1.tmps.getD 165 undef = .slice (some ⟨g, 0, none⟩) m c := hk.deps ⟨7, .data⟩ (by simp) rfl _ _ rfl rfl
          have d166 : a1.tmps.getD 166 undef = .int .i64 (c9 : Nat) := hk.deps ⟨8, .data⟩ (by simp) rfl _ _ rfl rfl
          simp [Region.wanted, Oper.wp, Act.eval, go_sem, d165, d166, k0, k1, q0, q1, hh1, hh2, ha1, ha2, hgl, hent, hdw, hdw2]
          exact hK _ _ (Below.refl _ _) rfl
          | 10, _ =>
          obtain rfl := Option.some.inj hoq
          intro a1 w1 K hk hK
          have d167 : a1.tmps.getD 167 undef = .pointer (some ⟨g, c9 * 2, none⟩) := hk.deps ⟨9, .data⟩ (by simp) rfl _ _ rfl rfl
          have c0 : w1.cell? ⟨g, d * 2, none⟩ = some (.slice Ay py.length cy) := Below.keeps hk.ext _ _ (by simp [go_sem, k0, k1, q0, q1, hh1, hh2, ha1, ha2, hgl, hent, hdw, hdw2])
          have c1 : w1.cell? ⟨g, d * 2 + 1, none⟩ = some (.int .u64 (vy : Nat)) := Below.keeps hk.ext _ _ (by simp [go_sem, k0, k1, q0, q1, hh1, hh2, ha1, ha2, hgl, hent, hdw, hdw2])
          have c2 : w1.cell? ⟨g, c9 * 2, none⟩ = some (.slice Ax px.length cx) := Below.keeps hk.ext _ _ (by simp [go_sem, k0, k1, q0, q1, hh1, hh2, ha1, ha2, hgl, hent, hdw, hdw2])
          have c3 : w1.cell? ⟨g, c9 * 2 + 1, none⟩ = some (.int .u64 (vx : Nat)) := Below.keeps hk.ext _ _ (by simp [go_sem, k0, k1, q0, q1, hh1, hh2, ha1, ha2, hgl, hent, hdw, hdw2])
          simp [Region.wanted, Oper.wp, Act.eval, go_sem, d167, c0, c1, c2, c3, k0, k1, q0, q1, hh1, hh2, ha1, ha2, hgl, hent, hdw, hdw2]
          exact hK _ _ (Below.refl _ _) rfl
          | 11, _ =>
          obtain rfl := Option.some.inj hoq
          intro a1 w1 K hk hK
          have d158 : a1.tmps.getD 158 undef = .func (.func 119) #[] #[] := hk.deps ⟨0, .data⟩ (by simp) rfl _ _ rfl rfl
          have d164 : a1.tmps.getD 164 undef = .agg #[.slice Ay py.length cy, .int .u64 (vy : Nat)] := hk.deps ⟨6, .data⟩ (by simp) rfl _ _ rfl rfl
          have d168 : a1.tmps.getD 168 undef = .agg #[.slice Ax px.length cx, .int .u64 (vx : Nat)] := hk.deps ⟨10, .data⟩ (by simp) rfl _ _ rfl rfl
          simp [Region.wanted, Oper.wp, Act.eval, go_sem, d158, d164, d168, k0, k1, q0, q1, hh1, hh2, ha1, ha2, hgl, hent, hdw, hdw2]
          refine (HOR.out _ (below_trans (by repeat (first | exact Below.refl _ _ | (refine Below.drew ?_) | (refine below_drewN' ?_ _) | (refine below_alloc' ?_ _) | (refine Below.setCell ?_ (by first | exact Nat.le_refl _ | (simp; done) | (simp; omega)) _))) hk.ext)).mono ?_
          rintro e w9 ⟨rfl, hb9⟩
          exact hK _ _ hb9 rfl
        · intro vs w3 hl hb3 hv
          match vs, hl with
          | [v0, v1, v2, v3, v4, v5, v6, v7, v8, v9, v10, v11], _ =>
          obtain rfl : v0 = .func (.func 119) #[] #[] := hv 0 (by omega)
          obtain rfl : v1 = .slice (some ⟨g, 0, none⟩) m c := hv 1 (by omega)
          obtain rfl : v2 = .int .i64 (p : Nat) := hv 2 (by omega)
          obtain rfl : v3 = .int .i64 (c9 : Nat) := hv 3 (by omega)
          obtain rfl : v4 = .int .i64 (d : Nat) := hv 4 (by omega)
          obtain rfl : v5 = .pointer (some ⟨g, d * 2, none⟩) := hv 5 (by omega)
          obtain rfl : v6 = .agg #[.slice Ay py.length cy, .int .u64 (vy : Nat)] := hv 6 (by omega)
          obtain rfl : v7 = .slice (some ⟨g, 0, none⟩) m c := hv 7 (by omega)
          obtain rfl : v8 = .int .i64 (c9 : Nat) := hv 8 (by omega)
          obtain rfl : v9 = .pointer (some ⟨g, c9 * 2, none⟩) := hv 9 (by omega)
          obtain rfl : v10 = .agg #[.slice Ax px.length cx, .int .u64 (vx : Nat)] := hv 10 (by omega)
          obtain rfl : v11 = .int .i64 z := hv 11 (by omega)
          clear hv
          simp only [putAll, List.take_succ_cons, List.take_zero, List.drop_succ_cons, List.drop_zero, Act.put, List.setIfInBounds_toArray, List.set_cons_succ, List.set_cons_zero]
          have HP3 := Lib.hid (HI.out.2.step (show Below wr.heap.size wr w3 from hb3))
          clear hb3 hth k0 k1 q0 q1 hgl hdw hdw2
          by_cases hz0 : z < 0
          · have HL := Lib.hid (HDN.out (HZ.out.1 hz0))
            go_wp2_with fail
            go_roundw
            case rel => exact ⟨st, c9, rfl, rfl, HL.out, HP3.out⟩
            case measure => rw [intOf_nat, intOf_nat, intOf_nat]; exact HN.out.2
          · have HL := Lib.hid (HUP.out (fun h => hz0 (HZ.out.2 h)))
            go_wp2_with fail
            go_roundw
            case rel => exact ⟨c9 + 1, r, by rw [HW2.out], rfl, HL.out, HP3.out⟩
            case measure => rw [intOf_nat, intOf_of' HW2.out, intOf_nat]; exact HN.out.1
      · have hl2 := hI.l2
        obtain rfl : st = r := by omega
        have hcut := hI.cut HCB.out HK.out.2.2.2.1 HK.out.2.2.2.2 HD.out.2.1 HD.out.2.2.1
        obtain ⟨A1, hA1⟩ : ∃ l, A.take (st - a) = l := ⟨_, rfl⟩
        obtain ⟨A2, hA2⟩ : ∃ l, A.drop (st - a) = l := ⟨_, rfl⟩
        obtain ⟨B1, hB1⟩ : ∃ l, B.take (mid - st) = l := ⟨_, rfl⟩
        obtain ⟨B2, hB2⟩ : ∃ l, B.drop (mid - st) = l := ⟨_, rfl⟩
        rw [hA1, hA2, hB1, hB2] at hcut
        clear hA1 hA2 hB1 hB2
        have HCUT := Lib.hid hcut
        obtain ⟨cea, ceb, cl1, cl2, cl3, cl4, clt, cle⟩ := hcut
        obtain ⟨d1, d2, d3, d4, d5⟩ := HD.out
        have hNm := HNE.out
        have hcb := HCB.out
        obtain ⟨en, hst⟩ : ∃ en, st + en = N := ⟨N - st, by have := hcb.hd; have := hI.l3; omega⟩
        have HEN := Lib.hid (show wrap64 ((N : Int) - (st : Int)) = (en : Int) from wrap_sub (by omega) (by omega))
        have sA := HK.out.2.2.2.1
        have sB := HK.out.2.2.2.2
        rw [cea] at sA
        rw [ceb] at sB
        obtain ⟨sA1, sA2, sA12⟩ := List.pairwise_append.1 sA
        obtain ⟨sB1, sB2, sB12⟩ := List.pairwise_append.1 sB
        have hcbl : a < mm ∧ mm < b ∧ mid = (a + b) / 2 := ⟨hcb.am, hcb.mb, hcb.md⟩
        obtain ⟨q1, q2, q3⟩ := hcbl
        have hAl := congrArg List.length cea
        have hBl := congrArg List.length ceb
        rw [List.length_append] at hAl hBl
        have HQ0 := Lib.hid (show PR W0 wr g n (X ++ (A1 ++ (A2 ++ (B1 ++ (B2 ++ Y))))) from by have := hpr; rw [cea, ceb] at this; simpa using this)
        have hk1 : ∀ x' ∈ X ++ (A1 ++ (B1 ++ (A2 ++ (B2 ++ Y)))), x'.2.p.length = k ∧ ∀ q ∈ x'.2.p, q < 2 ^ 64 := fun x' hx => HK.out.1 x' (by rw [cea, ceb]; simp only [List.mem_append] at hx ⊢; rcases hx with h | h | h | h | h | h <;> simp [h])
        have HROT := Lib.hid (show ¬ A2.length = 0 → ¬ B1.length = 0 → ∀ w', PR W0 w' g n (X ++ (A1 ++ (A2 ++ (B1 ++ (B2 ++ Y))))) → Calls Tryz.prog 184 #[.slice (some ⟨g, 0, none⟩) m c, .int .i64 (st : Nat), .int .i64 (mm : Nat), .int .i64 (en : Nat), .func (.func 119) #[] #[]] w' fun e w'' => RotR W0 g n (X ++ (A1 ++ (B1 ++ (A2 ++ (B2 ++ Y))))) e w'' from fun z2 z3 w' hp => by
          have := rot_any W0 w' g n st mm en m c (X ++ A1) A2 B1 (B2 ++ Y) (by simp; omega) (by omega) (by omega) (by simp; omega) d5 (fun h => z2 (by rw [h]; rfl)) (fun h => z3 (by rw [h]; rfl)) (by simpa using hp)
          simpa using this)
        have HNR := Lib.hid (show (A2.length = 0 ∨ B1.length = 0) → ∀ w', PR W0 w' g n (X ++ (A1 ++ (A2 ++ (B1 ++ (B2 ++ Y))))) → PR W0 w' g n (X ++ (A1 ++ (B1 ++ (A2 ++ (B2 ++ Y))))) from fun h w' hp => by
          rcases h with h | h
          · rw [List.length_eq_zero_iff] at h; subst h; simpa using hp
          · rw [List.length_eq_zero_iff] at h; subst h; simpa using hp)
        have HL := Lib.hid (show ¬ A1.length = 0 → ¬ B1.length = 0 → ∀ w', PR W0 w' g n (X ++ (A1 ++ (B1 ++ (A2 ++ (B2 ++ Y))))) → Calls Tryz.prog 179 #[.slice (some ⟨g, 0, none⟩) m c, .int .i64 (a : Nat), .int .i64 (st : Nat), .int .i64 (mid : Nat), .func (.func 119) #[] #[]] w' fun e w'' => MrgR W0 g n X (A1 ++ B1) (A2 ++ (B2 ++ Y)) e w'' from fun z1 z3 w' hp =>
          HIH.out w' a st mid X A1 B1 (A2 ++ (B2 ++ Y)) (by omega) d1 cl1 cl3 (by simp; omega) (fun h => z1 (by rw [h]; rfl)) (fun h => z3 (by rw [h]; rfl)) hp hk1 sA1 sB1)
        have HNL := Lib.hid (show (A1.length = 0 ∨ B1.length = 0) → ∀ w', PR W0 w' g n (X ++ (A1 ++ (B1 ++ (A2 ++ (B2 ++ Y))))) → Half W0 w' g n X (A1 ++ B1) (A1 ++ B1) (A2 ++ (B2 ++ Y)) from fun h w' hp => ⟨by simpa using hp, rfl, Stb.refl _, by
          rcases h with h | h
          · rw [List.length_eq_zero_iff] at h; subst h; rw [List.nil_append]; exact sB1
          · rw [List.length_eq_zero_iff] at h; subst h; rw [List.append_nil]; exact sA1⟩)
        have HR := Lib.hid (show ¬ A2.length = 0 → ¬ B2.length = 0 → ∀ (w' : World) (M1 : List Pe), Half W0 w' g n X (A1 ++ B1) M1 (A2 ++ (B2 ++ Y)) → Calls Tryz.prog 179 #[.slice (some ⟨g, 0, none⟩) m c, .int .i64 (mid : Nat), .int .i64 (en : Nat), .int .i64 (b : Nat), .func (.func 119) #[] #[]] w' fun e w'' => MrgR W0 g n (X ++ M1) (A2 ++ B2) Y e w'' from fun z2 z4 w' M1 ⟨hp, hl, hs, ho⟩ => by
          rw [List.length_append] at hl
          exact HIH.out w' mid en b (X ++ M1) A2 B2 Y (by omega) (by simp; omega) (by omega) (by omega) d4 (fun h => z2 (by rw [h]; rfl)) (fun h => z4 (by rw [h]; rfl)) (by simpa using hp) (fun x' hx => hk1 x' (by
            have hm := hs.mem (x := x')
            simp only [List.mem_append] at hx hm ⊢
            rcases hx with (h | h) | h | h | h
            · exact .inl h
            · rcases hm.2 h with h | h
              · exact .inr (.inl h)
              · exact .inr (.inr (.inl h))
            · exact .inr (.inr (.inr (.inl h)))
            · exact .inr (.inr (.inr (.inr (.inl h))))
            · exact .inr (.inr (.inr (.inr (.inr h)))))) sA2 sB2)
        have HNR2 := Lib.hid (show (A2.length = 0 ∨ B2.length = 0) → ∀ (w' : World) (M1 : List Pe), Half W0 w' g n X (A1 ++ B1) M1 (A2 ++ (B2 ++ Y)) → Half W0 w' g n (X ++ M1) (A2 ++ B2) (A2 ++ B2) Y from fun h w' M1 ⟨hp, _, _, _⟩ => ⟨by simpa using hp, rfl, Stb.refl _, by
          rcases h with h | h
          · rw [List.length_eq_zero_iff] at h; subst h; rw [List.nil_append]; exact sB2
          · rw [List.length_eq_zero_iff] at h; subst h; rw [List.append_nil]; exact sA2⟩)
        have HFIN := Lib.hid (show ∀ (w' : World) (M1 M2 : List Pe), (∃ w0, Half W0 w0 g n X (A1 ++ B1) M1 (A2 ++ (B2 ++ Y))) → Half W0 w' g n (X ++ M1) (A2 ++ B2) M2 Y → MrgR W0 g n X (A ++ B) Y (.returned (.tuple #[])) w' from fun w' M1 M2 ⟨w0, _, l1, s1, o1⟩ ⟨hp, l2, s2, o2⟩ => by
          refine ⟨M1 ++ M2, rfl, by simpa using hp, by rw [cea, ceb]; simp only [List.length_append] at l1 l2 ⊢; omega, ?_, ?_⟩
          · rw [cea, ceb]
            have e1 : Stb (A2 ++ B1) (B1 ++ A2) := Stb.swap fun u hu v hv => by have := clt v hv u hu; omega
            have e2 := ((Stb.refl A1).append (e1.append (Stb.refl B2))).trans (by have := s1.append s2; simpa using this)
            simpa using e2
          · refine List.pairwise_append.2 ⟨o1, o2, fun u hu v hv => ?_⟩
            have hu := s1.mem.2 hu
            have hv := s2.mem.2 hv
            rcases List.mem_append.1 hu with hu | hu <;> rcases List.mem_append.1 hv with hv | hv
            · exact sA12 u hu v hv
            · exact cle u hu v hv
            · exact Nat.le_of_lt (clt u hu v hv)
            · exact sB12 u hu v hv)
        have hstr : ¬ (st : Int) < (st : Int) := by omega
        clear hI hpr cea ceb clt cle hcb sA sB sA1 sA2 sA12 sB1 sB2 sB12 hk1
        by_cases z2 : A2.length = 0
        · by_cases z3 : B1.length = 0
          · first
              | (exfalso; omega)
              | skip
                have HC1 := Lib.hid (HNR.out (by omega))
                have HC2 := Lib.hid (HNL.out (by omega))
                have HC3 := Lib.hid (HNR2.out (by omega))
                have g1 : ¬ ((st : Int) < (mm : Int)) := by omega
                have g3 : ((a : Int) < (st : Int)) := by omega
                have g4 : ¬ ((st : Int) < (mid : Int)) := by omega
                have g5 : ¬ ((mid : Int) < (en : Int)) := by omega
                clear z2 z3 q1 q2 q3 hAl hBl hl2 hlt cl1 cl2 cl3 cl4 hst hNm d1 d2 d3 d4 d5
                have hen := HEN.out
                go_wp2_with fail
                clear hen
                have HP1 := Lib.hid (HC1.out _ HQ0.out)
                have HP2 := Lib.hid (HC2.out _ HP1.out)
                have HP3 := Lib.hid (HC3.out _ _ HP2.out)
                go_end0
                exact HFIN.out _ _ _ ⟨_, HP2.out⟩ HP3.out
          · first
              | (exfalso; omega)
              | skip
                have HC1 := Lib.hid (HNR.out (by omega))
                have HC2 := Lib.hid (HL.out (by omega) (by omega))
                have HC3 := Lib.hid (HNR2.out (by omega))
                have g1 : ¬ ((st : Int) < (mm : Int)) := by omega
                have g3 : ((a : Int) < (st : Int)) := by omega
                have g4 : ((st : Int) < (mid : Int)) := by omega
                have g5 : ¬ ((mid : Int) < (en : Int)) := by omega
                clear z2 z3 q1 q2 q3 hAl hBl hl2 hlt cl1 cl2 cl3 cl4 hst hNm d1 d2 d3 d4 d5
                have hen := HEN.out
                go_wp2_with fail
                clear hen
                have HP1 := Lib.hid (HC1.out _ HQ0.out)
                refine (HC2.out _ HP1.out).mono ?_
                rintro e w3 ⟨M1, rfl, hp, hl, hs, ho⟩
                have HP2 := Lib.hid (show Half W0 w3 g n X (A1 ++ B1) M1 (A2 ++ (B2 ++ Y)) from ⟨hp, hl, hs, ho⟩)
                clear hp hl hs ho
                have hen := HEN.out
                go_wp2_with fail
                clear hen
                have HP3 := Lib.hid (HC3.out _ _ HP2.out)
                go_end0
                exact HFIN.out _ _ _ ⟨_, HP2.out⟩ HP3.out
        · by_cases z3 : B1.length = 0
          · first
              | (exfalso; omega)
              | skip
                have HC1 := Lib.hid (HNR.out (by omega))
                have HC2 := Lib.hid (HNL.out (by omega))
                have HC3 := Lib.hid (HR.out (by omega) (by omega))
                have g1 : ((st : Int) < (mm : Int)) := by omega
                have g2 : ¬ ((mm : Int) < (en : Int)) := by omega
                have g3 : ((a : Int) < (st : Int)) := by omega
                have g4 : ¬ ((st : Int) < (mid : Int)) := by omega
                have g5 : ((mid : Int) < (en : Int)) := by omega
                have g6 : ((en : Int) < (b : Int)) := by omega
                clear z2 z3 q1 q2 q3 hAl hBl hl2 hlt cl1 cl2 cl3 cl4 hst hNm d1 d2 d3 d4 d5
                have hen := HEN.out
                go_wp2_with fail
                clear hen
                have HP1 := Lib.hid (HC1.out _ HQ0.out)
                have HP2 := Lib.hid (HC2.out _ HP1.out)
                (try rw [HEN.out])
                refine (HC3.out _ _ HP2.out).mono ?_
                rintro e w4 ⟨M2, rfl, hp, hl, hs, ho⟩
                have HP3 := Lib.hid (show Half W0 w4 g n _ (A2 ++ B2) M2 Y from ⟨hp, hl, hs, ho⟩)
                clear hp hl hs ho
                go_wp2_with fail
                go_end0
                exact HFIN.out _ _ _ ⟨_, HP2.out⟩ HP3.out
          · by_cases z1 : A1.length = 0
            · by_cases z4 : B2.length = 0
              · have HC1 := Lib.hid (HROT.out (by omega) (by omega))
                have HC2 := Lib.hid (HNL.out (by omega))
                have HC3 := Lib.hid (HNR2.out (by omega))
                have g1 : ((st : Int) < (mm : Int)) := by omega
                have g2 : ((mm : Int) < (en : Int)) := by omega
                have g3 : ¬ ((a : Int) < (st : Int)) := by omega
                have g5 : ((mid : Int) < (en : Int)) := by omega
                have g6 : ¬ ((en : Int) < (b : Int)) := by omega
                clear z2 z3 z1 z4 q1 q2 q3 hAl hBl hl2 hlt cl1 cl2 cl3 cl4 hst hNm d1 d2 d3 d4 d5
                have hen := HEN.out
                go_wp2_with fail
                clear hen
                (try rw [HEN.out])
                refine (HC1.out _ HQ0.out).mono ?_
                rintro e w2 ⟨rfl, hp⟩
                have HP1 := Lib.hid hp
                clear hp
                have hen := HEN.out
                go_wp2_with fail
                clear hen
                have HP2 := Lib.hid (HC2.out _ HP1.out)
                have HP3 := Lib.hid (HC3.out _ _ HP2.out)
                go_end0
                exact HFIN.out _ _ _ ⟨_, HP2.out⟩ HP3.out
              · have HC1 := Lib.hid (HROT.out (by omega) (by omega))
                have HC2 := Lib.hid (HNL.out (by omega))
                have HC3 := Lib.hid (HR.out (by omega) (by omega))
                have g1 : ((st : Int) < (mm : Int)) := by omega
                have g2 : ((mm : Int) < (en : Int)) := by omega
                have g3 : ¬ ((a : Int) < (st : Int)) := by omega
                have g5 : ((mid : Int) < (en : Int)) := by omega
                have g6 : ((en : Int) < (b : Int)) := by omega
                clear z2 z3 z1 z4 q1 q2 q3 hAl hBl hl2 hlt cl1 cl2 cl3 cl4 hst hNm d1 d2 d3 d4 d5
                have hen := HEN.out
                go_wp2_with fail
                clear hen
                (try rw [HEN.out])
                refine (HC1.out _ HQ0.out).mono ?_
                rintro e w2 ⟨rfl, hp⟩
                have HP1 := Lib.hid hp
                clear hp
                have hen := HEN.out
                go_wp2_with fail
                clear hen
                have HP2 := Lib.hid (HC2.out _ HP1.out)
                (try rw [HEN.out])
                refine (HC3.out _ _ HP2.out).mono ?_
                rintro e w4 ⟨M2, rfl, hp, hl, hs, ho⟩
                have HP3 := Lib.hid (show Half W0 w4 g n _ (A2 ++ B2) M2 Y from ⟨hp, hl, hs, ho⟩)
                clear hp hl hs ho
                go_wp2_with fail
                go_end0
                exact HFIN.out _ _ _ ⟨_, HP2.out⟩ HP3.out
            · by_cases z4 : B2.length = 0
              · have HC1 := Lib.hid (HROT.out (by omega) (by omega))
                have HC2 := Lib.hid (HL.out (by omega) (by omega))
                have HC3 := Lib.hid (HNR2.out (by omega))
                have g1 : ((st : Int) < (mm : Int)) := by omega
                have g2 : ((mm : Int) < (en : Int)) := by omega
                have g3 : ((a : Int) < (st : Int)) := by omega
                have g4 : ((st : Int) < (mid : Int)) := by omega
                have g5 : ((mid : Int) < (en : Int)) := by omega
                have g6 : ¬ ((en : Int) < (b : Int)) := by omega
                clear z2 z3 z1 z4 q1 q2 q3 hAl hBl hl2 hlt cl1 cl2 cl3 cl4 hst hNm d1 d2 d3 d4 d5
                have hen := HEN.out
                go_wp2_with fail
                clear hen
                (try rw [HEN.out])
                refine (HC1.out _ HQ0.out).mono ?_
                rintro e w2 ⟨rfl, hp⟩
                have HP1 := Lib.hid hp
                clear hp
                have hen := HEN.out
                go_wp2_with fail
                clear hen
                refine (HC2.out _ HP1.out).mono ?_
                rintro e w3 ⟨M1, rfl, hp, hl, hs, ho⟩
                have HP2 := Lib.hid (show Half W0 w3 g n X (A1 ++ B1) M1 (A2 ++ (B2 ++ Y)) from ⟨hp, hl, hs, ho⟩)
                clear hp hl hs ho
                have hen := HEN.out
                go_wp2_with fail
                clear hen
                have HP3 := Lib.hid (HC3.out _ _ HP2.out)
                go_end0
                exact HFIN.out _ _ _ ⟨_, HP2.out⟩ HP3.out
              · have HC1 := Lib.hid (HROT.out (by omega) (by omega))
                have HC2 := Lib.hid (HL.out (by omega) (by omega))
                have HC3 := Lib.hid (HR.out (by omega) (by omega))
                have g1 : ((st : Int) < (mm : Int)) := by omega
                have g2 : ((mm : Int) < (en : Int)) := by omega
                have g3 : ((a : Int) < (st : Int)) := by omega
                have g4 : ((st : Int) < (mid : Int)) := by omega
                have g5 : ((mid : Int) < (en : Int)) := by omega
                have g6 : ((en : Int) < (b : Int)) := by omega
                clear z2 z3 z1 z4 q1 q2 q3 hAl hBl hl2 hlt cl1 cl2 cl3 cl4 hst hNm d1 d2 d3 d4 d5
                have hen := HEN.out
                go_wp2_with fail
                clear hen
                (try rw [HEN.out])
                refine (HC1.out _ HQ0.out).mono ?_
                rintro e w2 ⟨rfl, hp⟩
                have HP1 := Lib.hid hp
                clear hp
                have hen := HEN.out
                go_wp2_with fail
                clear hen
                refine (HC2.out _ HP1.out).mono ?_
                rintro e w3 ⟨M1, rfl, hp, hl, hs, ho⟩
                have HP2 := Lib.hid (show Half W0 w3 g n X (A1 ++ B1) M1 (A2 ++ (B2 ++ Y)) from ⟨hp, hl, hs, ho⟩)
                clear hp hl hs ho
                have hen := HEN.out
                go_wp2_with fail
                clear hen
                (try rw [HEN.out])
                refine (HC3.out _ _ HP2.out).mono ?_
                rintro e w4 ⟨M2, rfl, hp, hl, hs, ho⟩
                have HP3 := Lib.hid (show Half W0 w4 g n _ (A2 ++ B2) M2 Y from ⟨hp, hl, hs, ho⟩)
                clear hp hl hs ho
                go_wp2_with fail
                go_end0
                exact HFIN.out _ _ _ ⟨_, HP2.out⟩ HP3.out
end Go.Proofs.YtjokcagggmjgmaaGreat
/-! SrtK -/
namespace Go.Proofs.YtjokcagggmjgmaaGreat
open Go.RowKit
set_option linter.unusedVariables false
set_option linter.unusedSimpArgs false
set_option maxRecDepth 100000

theorem sym_any (W0 : World) (g n m c k : Nat) (k1 : 1 ≤ k) (k16 : k ≤ 16) (hmx : m ≤ 1000) : ∀ (N : Nat) (w : World) (a mm b : Nat) (X A B Y : List Pe), A.length + B.length ≤ N → X.length = a → a + A.length = mm → mm + B.length = b → b + Y.length = m → A ≠ [] → B ≠ [] → PR W0 w g n (X ++ (A ++ (B ++ Y))) →
    (∀ x' ∈ X ++ (A ++ (B ++ Y)), x'.2.p.length = k ∧ ∀ q ∈ x'.2.p, q < 2 ^ 64) → Srt A → Srt B →
    Calls Tryz.prog 179 #[.slice (some ⟨g, 0, none⟩) m c, .int .i64 (a : Nat), .int .i64 (mm : Nat), .int .i64 (b : Nat), .func (.func 119) #[] #[]] w fun e w' => MrgR W0 g n X (A ++ B) Y e w' := by
  intro N
  induction N with
  | zero =>
    intro w a mm b X A B Y hN _ _ _ _ hA
    exact absurd (List.length_eq_zero_iff.1 (by omega)) hA
  | succ N ih =>
    intro w a mm b X A B Y hN ha hmm hb hm hA hB h hk sA sB
    cases A with
    | nil => exact absurd rfl hA
    | cons x A' =>
      cases A' with
      | nil => exact sym_left W0 w g n a mm b m c k X B Y x ha (by simpa using hmm) hb hm hmx k1 k16 h hk sB
      | cons x2 A2 =>
        cases B with
        | nil => exact absurd rfl hB
        | cons y B' =>
          cases B' with
          | nil => exact sym_right W0 w g n a mm b m c k X (x :: x2 :: A2) Y y ha hmm (by simpa using hb) hm hmx (by simp) k1 k16 h hk sA
          | cons y2 B2 =>
            exact sym_gen W0 w g n a mm b m c k X (x :: x2 :: A2) (y :: y2 :: B2) Y ha hmm hb hm hmx (by simp) (by simp) k1 k16 h hk sA sB
              fun w' a' mm' b' X' A' B' Y' hlt h1 h2 h3 h4 h5 h6 h7 h8 h9 h10 => ih w' a' mm' b' X' A' B' Y' (by omega) h1 h2 h3 h4 h5 h6 h7 h8 h9 h10
theorem isort_empty (w : World) (a m c : Nat) (A : Option Addr) (hm : a ≤ 1000) :
    Calls Tryz.prog 178 #[.slice A m c, .int .i64 (a : Nat), .int .i64 (a : Nat), .func (.func 119) #[] #[]] w fun e w' => e = .returned (.tuple #[]) ∧ w' = w := by
  have HW := Lib.hid (show wrap64 ((a : Int) + 1) = ((a + 1 : Nat) : Int) from wrap_succ (by omega))
  obtain ⟨b, hb⟩ : ∃ b, a + 1 = b := ⟨_, rfl⟩
  rw [hb] at HW
  have hlt : ¬ (b : Int) < (a : Int) := by omega
  clear hb hm
  go_enter Tryz.func178, Tryz.ntmps178
  go_wp2_with fail
  go_loopw [8, 9] (fun iv _ wr => iv = .int .i64 (b : Nat) ∧ wr = w) (fun _ _ _ => 0)
  case atStart => exact ⟨by rw [HW.out], rfl⟩
  case round =>
    obtain ⟨rfl, hw⟩ := hrel
    subst hw
    go_wp2_with fail
    go_end0
    exact ⟨rfl, rfl⟩
/-- blocks of bs each in order, and a rest -/
structure Blk (W0 w : World) (g n m bs : Nat) (xs : List Pe) (Ms Ls : List (List Pe)) (R : List Pe) : Prop where
  pr : PR W0 w g n (Ms.flatten ++ (Ls.flatten ++ R))
  stb : Stb xs (Ms.flatten ++ (Ls.flatten ++ R))
  len : Ms.flatten.length + (Ls.flatten.length + R.length) = m
  lm : ∀ L ∈ Ms, L.length = 2 * bs ∧ Srt L
  ll : ∀ L ∈ Ls, L.length = bs ∧ Srt L
  rl : R.length < bs
  rs : Srt R
theorem Stb.hk {k : Nat} {xs ys : List Pe} (h : Stb xs ys) (hk : ∀ x ∈ xs, x.2.p.length = k ∧ ∀ q ∈ x.2.p, q < 2 ^ 64) : ∀ x ∈ ys, x.2.p.length = k ∧ ∀ q ∈ x.2.p, q < 2 ^ 64 := fun x hx => hk x (h.mem.2 hx)
theorem flatten_snoc {α : Type} (Ls : List (List α)) (L : List α) : (Ls ++ [L]).flatten = Ls.flatten ++ L := by simp
set_option maxHeartbeats 8000000 in
theorem stc_any (W0 w : World) (g n c k : Nat) (xs : List Pe) (hl : xs.length ≤ 1000) (k1 : 1 ≤ k) (k16 : k ≤ 16) (h : PR W0 w g n xs) (hk : ∀ x ∈ xs, x.2.p.length = k ∧ ∀ q ∈ x.2.p, q < 2 ^ 64) :
    Calls Tryz.prog 163 #[.slice (some ⟨g, 0, none⟩) xs.length c, .int .i64 (xs.length : Nat), .func (.func 119) #[] #[]] w fun e w' => SortR W0 g n xs e w' := by
  have HP0 := Lib.hid h
  obtain ⟨m, hm⟩ : ∃ m, xs.length = m := ⟨_, rfl⟩
  rw [hm]
  have HD := Lib.hid (And.intro hm (show m ≤ 1000 by omega))
  have HK := Lib.hid (And.intro hk (And.intro k1 k16))
  clear hl k1 k16 h hk hm
  go_enter Tryz.func163, Tryz.ntmps163
  go_wp2_with fail
  go_loopw [7, 8] (fun av bv wr => ∃ (Ls : List (List Pe)) (R : List Pe) (a : Nat), av = .int .i64 (a : Nat) ∧ bv = .int .i64 ((a + 20 : Nat) : Int) ∧ Ls.flatten.length = a ∧ a + R.length = m ∧ PR W0 wr g n (Ls.flatten ++ R) ∧ Stb xs (Ls.flatten ++ R) ∧ (∀ L ∈ Ls, L.length = 20 ∧ Srt L)) (fun _ bv _ => m + 20 - (intOf bv).toNat)
  case atStart => exact ⟨[], xs, 0, rfl, rfl, rfl, by have := HD.out.1; simpa using this, HP0.out, Stb.refl _, by simp⟩
  case round =>
    obtain ⟨Ls, R, a, rfl, rfl, hla, har, hpr, hstb, hll⟩ := hrel
    have HI := Lib.hid (And.intro hla (And.intro har (And.intro hpr (And.intro hstb hll))))
    obtain ⟨b, hb⟩ : ∃ b, a + 20 = b := ⟨_, rfl⟩
    rw [hb]
    have hm1 := HD.out.2
    by_cases hle : b ≤ m
    · have hle2 : (b : Int) ≤ (m : Int) := by omega
      have hR20 : (R.take 20).length = 20 := by rw [List.length_take]; omega
      have eR : R = R.take 20 ++ R.drop 20 := (List.take_append_drop _ _).symm
      obtain ⟨S, hS⟩ : ∃ S, R.take 20 = S := ⟨_, rfl⟩
      obtain ⟨Q, hQ⟩ : ∃ Q, R.drop 20 = Q := ⟨_, rfl⟩
      rw [hS] at hR20 eR
      rw [hQ] at eR
      subst eR
      have hne : S ≠ [] := fun h => by rw [h] at hR20; simp at hR20
      have HINS := Lib.hid (isort_any W0 wr g n a b m c k Ls.flatten S Q hla (by omega) (by rw [List.length_append, hla]; exact har) hm1 HK.out.2.1 HK.out.2.2 hpr (hstb.hk HK.out.1) hne)
      have HW := Lib.hid (show wrap64 ((b : Int) + 20) = ((b + 20 : Nat) : Int) from by have := wrap_add (a := b) (i := 20) rfl (by omega); exact this)
      have hbq : b + Q.length = m := by rw [List.length_append] at har; omega
      have HN := Lib.hid (And.intro hb (And.intro hbq (And.intro hR20 hle)))
      clear hla har hpr hstb hll hb hm1 hle hR20 hS hQ hne hbq
      go_wp2_with fail
      refine HINS.out.mono ?_
      rintro e w2 ⟨S', rfl, hp, hl2, hs, hsrt⟩
      have HF := Lib.hid (And.intro hp (And.intro hl2 (And.intro hs hsrt)))
      clear hp hl2 hs hsrt
      go_wp2_with fail
      go_roundw
      case rel =>
        obtain ⟨i1, i2, i3, i4, i5⟩ := HI.out
        obtain ⟨f1, f2, f3, f4⟩ := HF.out
        obtain ⟨n1, n2, n3, n4⟩ := HN.out
        refine ⟨Ls ++ [S'], Q, b, rfl, HW.out ▸ rfl, by rw [flatten_snoc, List.length_append]; omega, n2, by rw [flatten_snoc, List.append_assoc]; exact f1, ?_, fun L hL => ?_⟩
        · rw [flatten_snoc, List.append_assoc]
          exact i4.trans ((Stb.refl _).append (f3.append (Stb.refl _)))
        · rcases List.mem_append.1 hL with hL | hL
          · exact i5 L hL
          · obtain rfl := List.mem_singleton.1 hL
            exact ⟨by omega, f4⟩
      case measure =>
        have hle := HN.out.2.2.2
        rw [intOf_of' HW.out, intOf_nat, Int.toNat_natCast, Int.toNat_natCast]
        omega
    · have hle2 : ¬ (b : Int) ≤ (m : Int) := by omega
      have HINS := Lib.hid (show Calls Tryz.prog 178 #[.slice (some ⟨g, 0, none⟩) m c, .int .i64 (a : Nat), .int .i64 (m : Nat), .func (.func 119) #[] #[]] wr fun e w' => InsR W0 g n Ls.flatten R [] e w' from by
        by_cases hne : R = []
        · subst hne
          have e : m = a := by simpa using har.symm
          subst e
          exact (isort_empty wr m m c _ hm1).mono fun e w' ⟨h1, h2⟩ => ⟨[], h1, by rw [h2]; simpa using hpr, rfl, Stb.refl _, List.Pairwise.nil⟩
        · exact isort_any W0 wr g n a m m c k Ls.flatten R [] hla har (by rw [List.append_nil, List.length_append, hla]; exact har) hm1 HK.out.2.1 HK.out.2.2 (by rw [List.append_nil]; exact hpr) (by rw [List.append_nil]; exact hstb.hk HK.out.1) hne)
      have HN := Lib.hid (And.intro hb hle)
      clear hla har hpr hstb hll hb hm1 hle
      go_wp2_with fail
      refine HINS.out.mono ?_
      rintro e w2 ⟨R', rfl, hp, hl2, hs, hsrt⟩
      have HB0 := Lib.hid (show Blk W0 w2 g n m 20 xs [] Ls R' from by
        obtain ⟨i1, i2, i3, i4, i5⟩ := HI.out
        obtain ⟨n1, n2⟩ := HN.out
        refine ⟨by simpa using hp, ?_, by simp only [List.flatten_nil, List.length_nil]; omega, by simp, i5, by omega, hsrt⟩
        simp only [List.flatten_nil, List.nil_append]
        exact i4.trans ((Stb.refl _).append hs))
      clear hp hl2 hs hsrt
      go_wp2_with fail
      go_loopw [6, 7, 8, 9] (fun sv _ _ _ wr => ∃ (bs : Nat) (Ls : List (List Pe)) (R : List Pe), sv = .int .i64 (bs : Nat) ∧ 20 ≤ bs ∧ bs ≤ 2000 ∧ Blk W0 wr g n m bs xs [] Ls R) (fun sv _ _ _ _ => m - (intOf sv).toNat)
      case atStart => exact ⟨20, Ls, R', rfl, by omega, by omega, HB0.out⟩
      case round =>
        obtain ⟨bs, Ls2, R2, rfl, hb20, hb2, hB⟩ := hrel
        have HBK := Lib.hid hB
        have HBS := Lib.hid (And.intro hb20 hb2)
        have hm1 := HD.out.2
        by_cases hlt : bs < m
        · have hlt2 : (bs : Int) < (m : Int) := by omega
          obtain ⟨b2, hbb⟩ : ∃ b2, 2 * bs = b2 := ⟨_, rfl⟩
          have HW2 := Lib.hid (show wrap64 (2 * (bs : Int)) = (b2 : Int) from by unfold wrap64; omega)
          have HW3 := Lib.hid (show wrap64 ((bs : Int) * 2) = (b2 : Int) from by have := HW2.out; rw [Int.mul_comm]; exact this)
          have HBB := Lib.hid hbb
          have HLT := Lib.hid hlt
          have HB00 := Lib.hid hB
          clear hB hb20 hb2 hm1 hlt hbb
          go_wp2_with fail
          (try rw [HW2.out])
          go_loopw [7, 8] (fun av bv wr => ∃ (Ms Ls : List (List Pe)) (R : List Pe) (a b : Nat), av = .int .i64 (a : Nat) ∧ bv = .int .i64 (b : Nat) ∧ a + b2 = b ∧ Ms.flatten.length = a ∧ Blk W0 wr g n m bs xs Ms Ls R) (fun _ bv _ => m + 4000 - (intOf bv).toNat)
          case atStart => exact ⟨[], Ls2, R2, 0, b2, rfl, rfl, by omega, rfl, HB00.out⟩
          case round =>
            obtain ⟨Ms, Ls3, R3, a3, b3, rfl, rfl, hab, hma, hB3⟩ := hrel
            have HB3 := Lib.hid hB3
            have hm1 := HD.out.2
            have hbb := HBB.out
            obtain ⟨hb20, hb2⟩ := HBS.out
            have hlen := hB3.len
            have hrl := hB3.rl
            by_cases hle3 : b3 ≤ m
            · have hle4 : (b3 : Int) ≤ (m : Int) := by omega
              obtain ⟨L1, L2, Lr, hL⟩ : ∃ L1 L2 Lr, Ls3 = L1 :: L2 :: Lr := by
                cases Ls3 with
                | nil => simp only [List.flatten_nil, List.length_nil] at hlen; omega
                | cons L1 Lr =>
                  have h1 := (hB3.ll L1 (by simp)).1
                  cases Lr with
                  | nil => simp only [List.flatten_cons, List.flatten_nil, List.length_append, List.length_nil] at hlen; omega
                  | cons L2 Lr => exact ⟨L1, L2, Lr, rfl⟩
              subst hL
              obtain ⟨l1, s1⟩ := hB3.ll L1 (by simp)
              obtain ⟨l2, s2⟩ := hB3.ll L2 (by simp)
              obtain ⟨mm, hmm⟩ : ∃ mm, a3 + bs = mm := ⟨_, rfl⟩
              have hln2 : a3 + (bs + (bs + Lr.flatten.length) + R3.length) = m := by simp only [List.flatten_cons, List.length_append] at hlen; omega
              have e1 : Ms.flatten ++ ((L1 :: L2 :: Lr).flatten ++ R3) = Ms.flatten ++ (L1 ++ (L2 ++ (Lr.flatten ++ R3))) := by simp
              have hpr := hB3.pr
              have hst := hB3.stb
              rw [e1] at hpr hst
              have HSYM := Lib.hid (sym_any W0 g n m c k HK.out.2.1 HK.out.2.2 hm1 _ wr a3 mm b3 Ms.flatten L1 L2 (Lr.flatten ++ R3) (Nat.le_refl _) hma (by omega) (by omega) (by rw [List.length_append]; omega) (by intro h; rw [h] at l1; simp at l1; omega) (by intro h; rw [h] at l2; simp at l2; omega) hpr (hst.hk HK.out.1) s1 s2)
              have HNX := Lib.hid (show ∀ w' M, PR W0 w' g n (Ms.flatten ++ (M ++ (Lr.flatten ++ R3))) → M.length = (L1 ++ L2).length → Stb (L1 ++ L2) M → Srt M → (Ms ++ [M]).flatten.length = b3 ∧ Blk W0 w' g n m bs xs (Ms ++ [M]) Lr R3 from fun w' M h1 h2 h3 h4 => by
                rw [List.length_append] at h2
                refine ⟨by rw [flatten_snoc, List.length_append]; omega, by rw [flatten_snoc, List.append_assoc]; exact h1, ?_, by rw [flatten_snoc, List.length_append]; omega, fun L hL => ?_, fun L hL => hB3.ll L (by simp [hL]), hrl, hB3.rs⟩
                · rw [flatten_snoc, List.append_assoc]
                  refine hst.trans ((Stb.refl _).append ?_)
                  have := h3.append (Stb.refl (Lr.flatten ++ R3))
                  simpa using this
                · rcases List.mem_append.1 hL with hL | hL
                  · exact hB3.lm L hL
                  · obtain rfl := List.mem_singleton.1 hL
                    exact ⟨by omega, h4⟩)
              have HWA := Lib.hid (show wrap64 ((a3 : Int) + (bs : Int)) = (mm : Int) from wrap_add (by omega) (by omega))
              have HWB := Lib.hid (show wrap64 ((b3 : Int) + (b2 : Int)) = ((b3 + b2 : Nat) : Int) from wrap_add rfl (by omega))
              have HN3 := Lib.hid (show m + 4000 - (b3 + b2) < m + 4000 - b3 from by omega)
              clear hB3 hab hma hbb hb20 hb2 hlen hrl hle3 l1 s1 l2 s2 hmm hln2 e1 hpr hst hm1
              have hw2 : wrap64 (2 * (bs : Int)) = (b2 : Int) := HW2.out
              have hwa := HWA.out
              go_wp2_with fail
              clear hw2 hwa
              (try rw [HWA.out])
              refine HSYM.out.mono ?_
              rintro e w5 ⟨M, rfl, hp, hl5, hs, ho⟩
              have HNW := Lib.hid (HNX.out _ M hp hl5 hs ho)
              clear hp hl5 hs ho
              have hw2 : wrap64 (2 * (bs : Int)) = (b2 : Int) := HW2.out
              go_wp2_with fail
              clear hw2
              go_roundw
              case rel => exact ⟨Ms ++ [M], Lr, R3, b3, b3 + b2, rfl, by first | rfl | rw [HWB.out] | rw [HW2.out, HWB.out], rfl, HNW.out.1, HNW.out.2⟩
              case measure => rw [intOf_of' HWB.out, intOf_nat, Int.toNat_natCast, Int.toNat_natCast]; exact HN3.out
            · have hle4 : ¬ (b3 : Int) ≤ (m : Int) := by omega
              obtain ⟨mm, hmm⟩ : ∃ mm, a3 + bs = mm := ⟨_, rfl⟩
              have HWA := Lib.hid (show wrap64 ((a3 : Int) + (bs : Int)) = (mm : Int) from wrap_add (by omega) (by omega))
              have hcase : (∃ L, Ls3 = [L]) ∨ Ls3 = [] := by
                cases Ls3 with
                | nil => exact .inr rfl
                | cons L1 Lr =>
                  have h1 := (hB3.ll L1 (by simp)).1
                  cases Lr with
                  | nil => exact .inl ⟨L1, rfl⟩
                  | cons L2 Lr =>
                    have h2 := (hB3.ll L2 (by simp)).1
                    simp only [List.flatten_cons, List.length_append] at hlen
                    omega
              have HOUT := Lib.hid (show ∀ w' R', PR W0 w' g n (Ms.flatten ++ R') → Stb (Ls3.flatten ++ R3) R' → Srt R' → R'.length = (Ls3.flatten ++ R3).length → Blk W0 w' g n m b2 xs [] Ms R' from fun w' R' h1 h2 h3 h4 => by
                rw [List.length_append] at h4
                refine ⟨by simpa using h1, ?_, by simp only [List.flatten_nil, List.length_nil]; omega, by simp, fun L hL => by have := hB3.lm L hL; exact ⟨by omega, this.2⟩, ?_, h3⟩
                · simp only [List.flatten_nil, List.nil_append]
                  exact hB3.stb.trans ((Stb.refl _).append h2)
                · rcases hcase with ⟨L, rfl⟩ | rfl
                  · have := (hB3.ll L (by simp)).1
                    simp only [List.flatten_cons, List.flatten_nil, List.length_append, List.length_nil] at h4
                    omega
                  · simp only [List.flatten_nil, List.length_nil] at h4
                    omega)
              have HNM := Lib.hid (show m - b2 < m - bs ∧ 20 ≤ b2 ∧ b2 ≤ 2000 from by have := HLT.out; omega)
              by_cases hml : mm < m
              · have hml2 : (mm : Int) < (m : Int) := by omega
                obtain ⟨L, rfl⟩ : ∃ L, Ls3 = [L] := by
                  rcases hcase with h | rfl
                  · exact h
                  · simp only [List.flatten_nil, List.length_nil] at hlen; omega
                obtain ⟨l1, s1⟩ := hB3.ll L (by simp)
                have hln2 : a3 + (bs + R3.length) = m := by simp only [List.flatten_cons, List.flatten_nil, List.length_append, List.length_nil] at hlen; omega
                have hpr := hB3.pr
                have hst := hB3.stb
                have e1 : Ms.flatten ++ ([L].flatten ++ R3) = Ms.flatten ++ (L ++ (R3 ++ [])) := by simp
                rw [e1] at hpr hst
                have HSYM := Lib.hid (sym_any W0 g n m c k HK.out.2.1 HK.out.2.2 hm1 _ wr a3 mm m Ms.flatten L R3 [] (Nat.le_refl _) hma (by omega) (by omega) (by simp) (by intro h; rw [h] at l1; simp at l1; omega) (by intro h; rw [h] at hln2; simp at hln2; omega) hpr (hst.hk HK.out.1) s1 hB3.rs)
                clear hB3 hab hma hbb hb20 hb2 hlen hrl hle3 l1 s1 hmm hln2 e1 hpr hst hm1 hcase hml
                have hw2 := HW2.out
                have hwa := HWA.out
                go_wp2_with fail
                clear hw2 hwa
                (try rw [HWA.out])
                refine HSYM.out.mono ?_
                rintro e w5 ⟨M, rfl, hp, hl5, hs, ho⟩
                have HNW := Lib.hid (HOUT.out _ M (by simpa using hp) (by simpa using hs) ho (by simpa using hl5))
                clear hp hl5 hs ho
                have hw3 := HW3.out
                go_wp2_with fail
                clear hw3
                go_roundw
                case rel => exact ⟨b2, Ms, M, by first | rfl | rw [HW3.out], HNM.out.2.1, HNM.out.2.2, HNW.out⟩
                case measure => first | (rw [intOf_nat, intOf_nat, Int.toNat_natCast, Int.toNat_natCast]; exact HNM.out.1) | (rw [intOf_of' HW3.out, intOf_nat, Int.toNat_natCast, Int.toNat_natCast]; exact HNM.out.1)
              · have hml2 : ¬ (mm : Int) < (m : Int) := by omega
                have hso : Srt (Ls3.flatten ++ R3) := by
                  rcases hcase with ⟨L, rfl⟩ | rfl
                  · obtain ⟨l1, s1⟩ := hB3.ll L (by simp)
                    have : R3 = [] := by
                      simp only [List.flatten_cons, List.flatten_nil, List.length_append, List.length_nil] at hlen
                      exact List.length_eq_zero_iff.1 (by omega)
                    rw [this]
                    simpa only [List.flatten_cons, List.flatten_nil, List.append_nil] using s1
                  · simpa only [List.flatten_nil, List.nil_append] using hB3.rs
                have HNW := Lib.hid (HOUT.out wr (Ls3.flatten ++ R3) hB3.pr (Stb.refl _) hso rfl)
                clear hB3 hab hma hbb hb20 hb2 hlen hrl hle3 hmm hm1 hcase hml hso
                have hw2 := HW2.out
                have hwa := HWA.out
                have hw3 := HW3.out
                go_wp2_with fail
                clear hw2 hwa hw3
                go_roundw
                case rel => exact ⟨b2, Ms, Ls3.flatten ++ R3, by first | rfl | rw [HW3.out], HNM.out.2.1, HNM.out.2.2, HNW.out⟩
                case measure => first | (rw [intOf_nat, intOf_nat, Int.toNat_natCast, Int.toNat_natCast]; exact HNM.out.1) | (rw [intOf_of' HW3.out, intOf_nat, Int.toNat_natCast, Int.toNat_natCast]; exact HNM.out.1)
        · have hlt2 : ¬ (bs : Int) < (m : Int) := by omega
          have HFIN := Lib.hid (show SortR W0 g n xs (.returned (.tuple #[])) wr from by
            have hlen := hB.len
            have hrl := hB.rl
            have hpr := hB.pr
            have hst := hB.stb
            simp only [List.flatten_nil, List.length_nil, List.nil_append] at hlen hpr hst
            refine ⟨Ls2.flatten ++ R2, rfl, hpr, by rw [List.length_append]; have := HD.out.1; omega, hst, ?_⟩
            cases Ls2 with
            | nil => simpa only [List.flatten_nil, List.nil_append] using hB.rs
            | cons L1 Lr =>
              obtain ⟨l1, s1⟩ := hB.ll L1 (by simp)
              cases Lr with
              | nil =>
                have : R2 = [] := by
                  simp only [List.flatten_cons, List.flatten_nil, List.length_append, List.length_nil] at hlen
                  exact List.length_eq_zero_iff.1 (by omega)
                rw [this]
                simpa only [List.flatten_cons, List.flatten_nil, List.append_nil] using s1
              | cons L2 Lr =>
                obtain ⟨l2, _⟩ := hB.ll L2 (by simp)
                simp only [List.flatten_cons, List.length_append] at hlen
                omega)
          clear hB hb20 hb2 hm1 hlt
          go_wp2_with fail
          go_end0
          exact HFIN.out
theorem sort_any : SortOk 1000 := by
  intro W0 w g n c k xs hl hne k1 k16 h hk
  have HI := Lib.hid (stc_any W0 w g n c k xs hl k1 k16 h hk)
  clear h hk hl hne k1 k16
  go_enter Tryz.func118, Tryz.ntmps118
  go_wp2_with fail
  refine HI.out.mono ?_
  rintro e w2 ⟨ys, rfl, h1, h2, h3, h4⟩
  have HF := Lib.hid (And.intro h1 (And.intro h2 (And.intro h3 h4)))
  clear h1 h2 h3 h4
  go_wp2_with fail
  go_end0
  exact ⟨ys, rfl, HF.out.1, HF.out.2.1, HF.out.2.2.1, HF.out.2.2.2⟩
end Go.Proofs.YtjokcagggmjgmaaGreat
/-! AwkA -/
namespace Go.Proofs.YtjokcagggmjgmaaGreat
open Go.RowKit
set_option linter.unusedVariables false
set_option linter.unusedSimpArgs false
set_option maxRecDepth 100000

theorem RdE.three {w : World} {b c : Nat} {e0 e1 e2 : En} (h0 : EnAt w b 0 e0) (h1 : EnAt w b 2 e1) (h2 : EnAt w b 4 e2) (hc : 3 ≤ c ∧ c ≤ maxLen) : RdE w (.slice (some ⟨b, 0, none⟩) 3 c) [e0, e1, e2] :=
  ⟨_, c, rfl, ⟨hc.1, hc.2, fun _ => ⟨_, _, rfl⟩⟩, fun _ => ⟨b, 0, rfl, fun j hj => by
    match j, hj with
    | 0, _ => exact h0
    | 1, _ => exact h1
    | 2, _ => exact h2
    | j + 3, hj => simp at hj; omega⟩⟩
theorem RdE.pair' {w : World} {b c : Nat} {e0 e1 : En} (h0 : EnAt w b 0 e0) (h1 : EnAt w b 2 e1) (hc : 2 ≤ c ∧ c ≤ maxLen) : RdE w (.slice (some ⟨b, 0, none⟩) 2 c) [e0, e1] :=
  ⟨_, c, rfl, ⟨hc.1, hc.2, fun _ => ⟨_, _, rfl⟩⟩, fun _ => ⟨b, 0, rfl, fun j hj => by
    match j, hj with
    | 0, _ => exact h0
    | 1, _ => exact h1
    | j + 2, hj => simp at hj; omega⟩⟩
def xe3 : List En := [⟨[4, 0], 1⟩, ⟨[7, 3], 2⟩, ⟨[4, 0], 3⟩]
def xm2 : List En := [⟨[4, 0], 3⟩, ⟨[7, 3], 2⟩]
theorem xputs : putsL [] xe3 = xm2 := by first | rfl | kernel_rfl
theorem xok3 : ∀ e ∈ xe3, e.p.length = 2 ∧ ∀ q ∈ e.p, q < 2 ^ 64 := by decide
theorem xets : EtS 2 xm2 := ⟨xputs ▸ (Et.nil 2).puts xok3, by decide, by decide⟩
set_option maxHeartbeats 2000000 in
theorem awk_any (w : World) : Calls Tryz.prog 25 #[] w fun e w' => e = .returned (.bool true) ∧ Below w.heap.size w w' := by
  have HM := Lib.hid (fun (W : World) (v : Value) (hv : RdE W v xe3) => make_any 19 sort_small W 2 xe3 v hv (by decide) (by decide) (by decide) (by decide) xok3 (by decide))
  rw [xputs] at HM
  have HI := Lib.hid (fun (W : World) (t : Nat) (v : Value) (ht : TrR W t 2 xm2) (hv : RdE W v xm2) => is07_any W t 2 xm2 v ht hv xets)
  go_enter Tryz.func25, Tryz.ntmps25
  go_wp2_with fail
  refine (HM.out _ _ (RdE.three ?_ ?_ ?_ ?_)).mono ?_
  · exact ⟨.slice (some ⟨w.heap.size, 0, none⟩) 2 2, by simp [go_sem], RdU.two (by simp [go_sem]) (by simp [go_sem]), by simp [go_sem]⟩
  · exact ⟨.slice (some ⟨w.heap.size + 1, 0, none⟩) 2 2, by simp [go_sem], RdU.two (by simp [go_sem]) (by simp [go_sem]), by simp [go_sem]⟩
  · exact ⟨.slice (some ⟨w.heap.size + 1 + 1, 0, none⟩) 2 2, by simp [go_sem], RdU.two (by simp [go_sem]) (by simp [go_sem]), by simp [go_sem]⟩
  · simp [maxLen]
  rintro e w1 ⟨t, rfl, ht, hb1⟩
  have HB1 := Lib.hid (show Below w.heap.size w w1 from below_trans (by repeat (first | exact Below.refl _ _ | (refine Below.drew ?_) | (refine below_drewN' ?_ _) | (refine below_alloc' ?_ _) | (refine Below.setCell ?_ (by first | exact Nat.le_refl _ | (simp; done) | (simp; omega)) _))) hb1)
  have HT1 := Lib.hid ht
  clear hb1 ht
  go_wp2_with fail
  refine (HI.out _ _ _ (HT1.out.bel (by repeat (first | exact Below.refl _ _ | (refine Below.drew ?_) | (refine below_drewN' ?_ _) | (refine below_alloc' ?_ _) | (refine Below.setCell ?_ (by first | exact Nat.le_refl _ | (simp; done) | (simp; omega)) _)))) (RdE.pair' ?_ ?_ ?_)).mono ?_
  · exact ⟨.slice (some ⟨w1.heap.size, 0, none⟩) 2 2, by simp [go_sem], RdU.two (by simp [go_sem]) (by simp [go_sem]), by simp [go_sem]⟩
  · exact ⟨.slice (some ⟨w1.heap.size + 1, 0, none⟩) 2 2, by simp [go_sem], RdU.two (by simp [go_sem]) (by simp [go_sem]), by simp [go_sem]⟩
  · simp [maxLen]
  rintro e w2 ⟨rfl, hb2⟩
  have HB2 := Lib.hid (HB1.out.trans ((below_trans (by repeat (first | exact Below.refl _ _ | (refine Below.drew ?_) | (refine below_drewN' ?_ _) | (refine below_alloc' ?_ _) | (refine Below.setCell ?_ (by first | exact Nat.le_refl _ | (simp; done) | (simp; omega)) _))) hb2).mono HB1.out.size))
  clear hb2
  go_wp2_with fail
  go_ret
  exact ⟨rfl, HB2.out⟩
end Go.Proofs.YtjokcagggmjgmaaGreat
/-! HvyE -/
namespace Go.Proofs.YtjokcagggmjgmaaGreat
open Go.RowKit
set_option linter.unusedVariables false
set_option linter.unusedSimpArgs false
set_option maxRecDepth 100000

def heavyE (l : List En) (most : Int) : Bool := decide ((l.length : Int) > most) || l.any fun a => decide (a.p.length > 40)
theorem heavyE_any (w : World) (l : List En) (v : Value) (most : Int) (hv : RdE w v l) (hl : l.length ≤ maxLen) :
    Calls Tryz.prog 26 #[v, .int .i64 most] w fun e w' => e = .returned (.bool (heavyE l most)) ∧ w' = w := by
  obtain ⟨A, c, rfl, _, hx⟩ := hv
  have HX := Lib.hid hx
  have HL := Lib.hid (show l.length ≤ 9223372036854775807 from Nat.le_trans hl (by decide))
  clear hx hl
  by_cases hm : (l.length : Int) > most
  · have HH := Lib.hid (show heavyE l most = true by unfold heavyE; rw [decide_eq_true hm]; rfl)
    go_enter Tryz.func26, Tryz.ntmps26
    go_wp2_with fail
    go_ret
    exact ⟨by rw [HH.out] <;> rfl, rfl⟩
  · have hh : heavyE l most = l.any fun a => decide (a.p.length > 40) := by unfold heavyE; rw [decide_eq_false hm]; rfl
    have HH := Lib.hid hh
    clear hh
    go_enter Tryz.func26, Tryz.ntmps26
    go_wp2_with fail
    go_loopw [5] (fun iv wr => ∃ j : Nat, j ≤ l.length ∧ iv = .int .i64 (j : Nat) ∧ wr = w ∧ (l.take j).any (fun a => decide (a.p.length > 40)) = false) (fun iv _ => l.length - (intOf iv).toNat)
    case atStart => exact ⟨0, Nat.zero_le _, rfl, rfl, by simp⟩
    case round =>
      obtain ⟨j, hj, rfl, hw, hany⟩ := hrel
      subst hw
      by_cases hlt : j < l.length
      · have h3 : (j : Int) < (l.length : Int) := by omega
        have h5 : (0 : Int) ≤ (j : Int) := by omega
        have HW := Lib.hid (show wrap64 ((j : Int) + 1) = ((j + 1 : Nat) : Int) by have := HL.out; unfold wrap64; omega)
        obtain ⟨b2, o2, rfl, hc⟩ := HX.out (by omega)
        obtain ⟨u, k0, ku, k1⟩ := hc j hlt
        have htk : (l.take (j + 1)).any (fun a => decide (a.p.length > 40)) = decide (l[j].p.length > 40) := by rw [← List.take_append_getElem hlt, List.any_append, hany]; simp
        have hall : decide (l[j].p.length > 40) = true → (l.any fun a => decide (a.p.length > 40)) = true := fun h => List.any_eq_true.2 ⟨_, List.getElem_mem hlt, h⟩
        have HT := Lib.hid (And.intro htk hall)
        have hlb := World.block_lt_of_cell? _ _ k0
        obtain ⟨Au, cu, rfl, _⟩ := RdU.point ku
        generalize l[j] = ac at *
        clear hc htk hall ku hany
        by_cases h40 : (ac.p.length : Int) > 40
        · go_wp2_with fail
          go_ret
          exact ⟨by rw [HH.out, HT.out.2 (by simp; omega)] <;> rfl, rfl⟩
        · go_wp2_with fail
          go_roundw
          case rel => exact ⟨j + 1, by omega, (by first | rw [HW.out] | rfl | simp), (by first | rfl | trivial), by rw [HT.out.1]; simp; omega⟩
          case measure => (first | (rw [intOf_of' HW.out, intOf_of' rfl]; omega) | (simp [intOf]; omega) | (simp [intOf] <;> omega))
      · have h3 : ¬ (j : Int) < (l.length : Int) := by omega
        rw [List.take_of_length_le (by omega)] at hany
        have HA := Lib.hid hany
        clear hany
        go_wp2_with fail
        go_ret
        exact ⟨by rw [HH.out, HA.out] <;> rfl, rfl⟩
end Go.Proofs.YtjokcagggmjgmaaGreat
/-! OpenC -/
namespace Go.Proofs.YtjokcagggmjgmaaGreat
open Go.RowKit Go.ChangeShapes Go.WideShapes Go.Deep
set_option linter.unusedVariables false

section
variable {H : Type} {enc : TypeId × Value → H} {P : Program} {w : World} {base : Nat} {spare : Nat → Bool} {held : Bool}
theorem open_slice_fields {t e : TypeId} {fs : Array Field} {fuel : Nat} {cs : List Value} {x : DataW H × List MemPlace} (ht : P.underlying t = some (.slice e)) (he : P.underlying e = some (.struct fs))
    (hone : oneCellFields P fs = true) (hC : P.cellsOf e = fs.size) (h : DataW.trod enc P w base spare held fuel t cs = some x) :
    (cs = [.slice none 0 0]) ∨
    ∃ (a : Addr) (len cap m : Nat), cs = [.slice (some a) len cap] ∧ len ≤ cap ∧ cap ≤ maxLen ∧ m = (if spare a.block then cap else len) ∧
      ∀ i, i < m → ∀ (j : Nat) (f : Field), fs[j]? = some f → ∃ (v : Value) (y : DataW H × List MemPlace) (n : Nat), w.cell? (a.add (i * fs.size + j)) = some v ∧ DataW.trod enc P w base spare held n f.type [v] = some y := by
  rcases open_slice ht h with h0 | ⟨a, len, cap, m, n, D, Pl, hcs, hb, hl, hm, hmm, hx, hi⟩
  · exact .inl h0.1
  · refine .inr ⟨a, len, cap, m, hcs, hl, hm, hmm, fun i him => ?_⟩
    obtain ⟨cs', hc, ht'⟩ := hi i him
    rw [hC] at hc
    obtain ⟨ys, n', hn', hy, hlen, hyl, hf⟩ := DataW.trod_struct he ht'
    obtain ⟨_, hcl, hat⟩ := World.cells?_some hc
    intro j f hj
    obtain ⟨ho, hk⟩ := hone_of hone j f hj
    have hjl : j < fs.size := (Array.getElem?_eq_some_iff.1 hj).1
    have hcell := hat j hjl
    have hv : cs'[j]? = some (cs'[j]'(by omega)) := List.getElem?_eq_getElem (by omega)
    have h1 := hf j f hj
    rw [ho, hk] at h1
    have hone' : (cs'.drop j).take 1 = [cs'[j]'(by omega)] := by
      rw [List.drop_eq_getElem_cons (by omega)]
      rfl
    rw [hone'] at h1
    have hys : ys[j]? = some (ys[j]'(by omega)) := List.getElem?_eq_getElem (by omega)
    refine ⟨_, _, n', ?_, h1.trans hys⟩
    rw [← Go.Deep.add_add, hcell, hv]
end
theorem spot_none {w : World} {a : Addr} {v : Value} (h : w.cell? a = some v) : ∃ b o, a = ⟨b, o, none⟩ := by
  obtain ⟨b, o, sp⟩ := a
  cases sp with
  | none => exact ⟨b, o, rfl⟩
  | some q => simp [World.cell?] at h; split at h <;> cases h
theorem add_plain (b o j : Nat) : (⟨b, o, none⟩ : Addr).add j = ⟨b, o + j, none⟩ := by
  unfold Addr.add; split
  · rename_i h; subst h; rfl
  · rfl
theorem pti_toNat {xs : List Int} (h : ∀ x ∈ xs, 0 ≤ x ∧ x ≤ 18446744073709551615) : pti (xs.map Int.toNat) = xs := by
  unfold pti
  rw [List.map_map]
  conv => rhs; rw [← List.map_id xs]
  apply List.map_congr_left
  intro x hx
  have := h x hx
  simp only [Function.comp_apply, id]
  omega
instance : Inhabited Ch := ⟨⟨[], false, false, 0, 0⟩⟩
end Go.Proofs.YtjokcagggmjgmaaGreat
/-! OpenA -/
namespace Go.Proofs.YtjokcagggmjgmaaGreat
open Go.RowKit Go.ChangeShapes Go.WideShapes Go.Deep
set_option linter.unusedVariables false

/-- an act's numbers, whatever its point's length -/
def Ac.OkV (a : Ac) : Prop := (∀ c ∈ a.p, c < 2 ^ 64) ∧ a.v < 2 ^ 64
theorem open_acts {H : Type} {enc : TypeId × Value → H} {W : World} {base : Nat} {held : Bool} {v : Value} {x : DataW H × List MemPlace} {fuel : Nat}
    (h : DataW.trod enc Tryz.prog W base (fun _ => true) held fuel 22 [v] = some x) :
    ∃ l, RdA W v l ∧ (∀ c ∈ l, Ac.OkV c) ∧ l.length ≤ maxLen ∧ ∃ A n c, v = .slice A n c ∧ n ≤ c ∧ c ≤ maxLen ∧ (0 < c → ∃ b o, A = some ⟨b, o, none⟩) := by
  have hu : ∃ fs, Tryz.prog.underlying 86 = some (.struct fs) ∧ fs.size = 3 ∧ (fs[0]?.map (·.type) = some 4) ∧ (fs[1]?.map (·.type) = some 48) ∧ (fs[2]?.map (·.type) = some 49) ∧ oneCellFields Tryz.prog fs = true ∧ Tryz.prog.cellsOf 86 = fs.size :=
    ⟨_, Tryz.underlying86, by kernel_rfl, by kernel_rfl, by kernel_rfl, by kernel_rfl, by kernel_rfl, by kernel_rfl⟩
  obtain ⟨fs, he, hs, t0, t1, t2, hone, hC⟩ := hu
  rcases open_slice_fields Tryz.underlying22 he hone hC h with h0 | ⟨a, len, cap, m, hcs, hl, hm, hmm, hf⟩
  · simp only [List.cons.injEq, and_true] at h0
    subst h0
    exact ⟨[], ⟨none, 0, rfl, fun h => absurd h (by simp)⟩, fun c hc => by simp at hc, by simp [maxLen], none, 0, 0, rfl, Nat.le_refl _, Nat.zero_le _, fun h => absurd h (by omega)⟩
  · simp only [List.cons.injEq, and_true] at hcs
    subst hcs
    have hlm : len ≤ m := by rw [hmm]; split <;> omega
    rw [hs] at hf
    have hmc : m = cap := by rw [hmm]; rfl
    have hab : 0 < cap → ∃ b o, a = ⟨b, o, none⟩ := by
      intro h0
      obtain ⟨f0, q0, r0⟩ := Option.map_eq_some_iff.1 t0
      obtain ⟨v0, y0, n0, c0, d0⟩ := hf 0 (by omega) 0 f0 q0
      exact spot_none (by simpa [Addr.add] using c0)
    have each : ∀ i, i < len → ∃ c, (Ac.OkV c) ∧ ∃ b o, a = ⟨b, o, none⟩ ∧ AcAt W b (o + i * 3) c := by
      intro i hi
      have hfi := hf i (by omega)
      obtain ⟨f0, q0, r0⟩ := Option.map_eq_some_iff.1 t0
      obtain ⟨f1, q1, r1⟩ := Option.map_eq_some_iff.1 t1
      obtain ⟨f2, q2, r2⟩ := Option.map_eq_some_iff.1 t2
      obtain ⟨v0, y0, n0, c0, d0⟩ := hfi 0 f0 q0
      obtain ⟨v1, y1, n1, c1, d1⟩ := hfi 1 f1 q1
      obtain ⟨v2, y2, n2, c2, d2⟩ := hfi 2 f2 q2
      rw [r0] at d0; rw [r1] at d1; rw [r2] at d2
      obtain ⟨b, o, ha⟩ := hab (by omega)
      subst ha
      rw [add_plain] at c0 c1 c2
      obtain ⟨b0, e0, _⟩ := DataW.trod_bool Tryz.underlying4 d0
      obtain ⟨i2, e2, _, w2⟩ := DataW.trod_int Tryz.underlying49 d2
      simp only [List.cons.injEq, and_true] at e0 e2
      subst e0 e2
      have hp1 : ∃ xs : List Int, (∀ x ∈ xs, 0 ≤ x ∧ x ≤ 18446744073709551615) ∧ RdU W v1 xs := by
        rcases open_ints Tryz.underlying48 Tryz.underlying49 (by kernel_rfl) d1 with ⟨hcs, _⟩ | ⟨x, l, c, zs, hcs, _, hl, hm, hz, _, hcell, hwz⟩
        · simp only [List.cons.injEq, and_true] at hcs
          subst hcs
          exact ⟨[], fun x hx => by simp at hx, RdU.nil _ _ _⟩
        · simp only [List.cons.injEq, and_true] at hcs
          subst hcs
          obtain ⟨xs, _, _, h3, h4⟩ := RdU.of_row (w := W) (a := some x) (len := l) (cap := c) (zs := zs) (.inr ⟨_, rfl, hl, hm, by simpa using hz, hcell, hwz⟩)
          exact ⟨xs, h3, h4⟩
      obtain ⟨xs1, hx1, hv1⟩ := hp1
      have ho1 : ∀ y ∈ xs1.map Int.toNat, y < 2 ^ 64 := fun y hy => by
        simp only [List.mem_map] at hy
        obtain ⟨z, hz, rfl⟩ := hy
        have := hx1 z hz
        omega
      have g2 := bounds_u64 w2
      refine ⟨(⟨b0, xs1.map Int.toNat, i2.toNat⟩ : Ac), ⟨ho1, by show i2.toNat < 2 ^ 64; omega⟩, b, o, rfl, ?_⟩
      have z0 : W.cell? ⟨b, o + i * 3, none⟩ = some (.bool b0) := by simpa [Nat.add_assoc] using c0
      have z1 : W.cell? ⟨b, o + i * 3 + 1, none⟩ = some v1 := by simpa [Nat.add_assoc] using c1
      have y1' : RdU W v1 (pti (xs1.map Int.toNat)) := by rw [pti_toNat hx1]; exact hv1
      have z2 : W.cell? ⟨b, o + i * 3 + 2, none⟩ = some (.int .u64 (i2.toNat : Nat)) := by rw [show ((i2.toNat : Nat) : Int) = i2 by omega]; simpa [Nat.add_assoc] using c2
      exact ⟨v1, z0, by simpa [Nat.add_assoc] using z1, y1', by simpa [Nat.add_assoc] using z2⟩
    obtain ⟨f, hF⟩ := choose_lt each
    refine ⟨(List.range len).map f, ⟨some a, cap, by simp, fun hp => ?_⟩, ?_, by simp; omega, some a, len, cap, rfl, hl, hm, fun h => ?_⟩
    · have hp' : 0 < len := by simpa using hp
      obtain ⟨_, b, o, ha, _⟩ := hF 0 hp'
      refine ⟨b, o, by rw [ha], fun j hj => ?_⟩
      obtain ⟨_, b', o', ha', hc⟩ := hF j (by simpa using hj)
      rw [ha] at ha'
      injection ha' with e1 e2
      subst e1 e2
      simpa using hc
    · intro c hc
      simp only [List.mem_map, List.mem_range] at hc
      obtain ⟨j, hj, rfl⟩ := hc
      exact (hF j hj).1
    · obtain ⟨b, o, ha⟩ := hab h
      exact ⟨b, o, by rw [ha]⟩
end Go.Proofs.YtjokcagggmjgmaaGreat
/-! OpenE -/
namespace Go.Proofs.YtjokcagggmjgmaaGreat
open Go.RowKit Go.ChangeShapes Go.WideShapes Go.Deep
set_option linter.unusedVariables false

/-- an entry's numbers, whatever its point's length -/
def En.OkV (a : En) : Prop := (∀ c ∈ a.p, c < 2 ^ 64) ∧ a.v < 2 ^ 64
theorem open_ents {H : Type} {enc : TypeId × Value → H} {W : World} {base : Nat} {held : Bool} {v : Value} {x : DataW H × List MemPlace} {fuel : Nat}
    (h : DataW.trod enc Tryz.prog W base (fun _ => true) held fuel 28 [v] = some x) :
    ∃ l, RdE W v l ∧ (∀ c ∈ l, En.OkV c) ∧ l.length ≤ maxLen ∧ ∃ A n c, v = .slice A n c ∧ n ≤ c ∧ c ≤ maxLen ∧ (0 < c → ∃ b o, A = some ⟨b, o, none⟩) := by
  have hu : ∃ fs, Tryz.prog.underlying 51 = some (.struct fs) ∧ fs.size = 2 ∧ (fs[0]?.map (·.type) = some 48) ∧ (fs[1]?.map (·.type) = some 49) ∧ oneCellFields Tryz.prog fs = true ∧ Tryz.prog.cellsOf 51 = fs.size :=
    ⟨_, Tryz.underlying51, by kernel_rfl, by kernel_rfl, by kernel_rfl, by kernel_rfl, by kernel_rfl⟩
  obtain ⟨fs, he, hs, t0, t1, hone, hC⟩ := hu
  rcases open_slice_fields Tryz.underlying28 he hone hC h with h0 | ⟨a, len, cap, m, hcs, hl, hm, hmm, hf⟩
  · simp only [List.cons.injEq, and_true] at h0
    subst h0
    exact ⟨[], ⟨none, 0, rfl, ⟨Nat.le_refl _, Nat.zero_le _, fun h => absurd h (by omega)⟩, fun h => absurd h (by simp)⟩, fun c hc => by simp at hc, by simp [maxLen], none, 0, 0, rfl, Nat.le_refl _, Nat.zero_le _, fun h => absurd h (by omega)⟩
  · simp only [List.cons.injEq, and_true] at hcs
    subst hcs
    have hlm : len ≤ m := by rw [hmm]; split <;> omega
    rw [hs] at hf
    have hmc : m = cap := by rw [hmm]; rfl
    have hab : 0 < cap → ∃ b o, a = ⟨b, o, none⟩ := by
      intro h0
      obtain ⟨f0, q0, r0⟩ := Option.map_eq_some_iff.1 t0
      obtain ⟨v0, y0, n0, c0, d0⟩ := hf 0 (by omega) 0 f0 q0
      exact spot_none (by simpa [Addr.add] using c0)
    have each : ∀ i, i < len → ∃ c, (En.OkV c) ∧ ∃ b o, a = ⟨b, o, none⟩ ∧ EnAt W b (o + i * 2) c := by
      intro i hi
      have hfi := hf i (by omega)
      obtain ⟨f0, q0, r0⟩ := Option.map_eq_some_iff.1 t0
      obtain ⟨f1, q1, r1⟩ := Option.map_eq_some_iff.1 t1
      obtain ⟨v0, y0, n0, c0, d0⟩ := hfi 0 f0 q0
      obtain ⟨v1, y1, n1, c1, d1⟩ := hfi 1 f1 q1
      rw [r0] at d0; rw [r1] at d1
      obtain ⟨b, o, ha⟩ := hab (by omega)
      subst ha
      rw [add_plain] at c0 c1
      obtain ⟨i1, e1, _, w1⟩ := DataW.trod_int Tryz.underlying49 d1
      simp only [List.cons.injEq, and_true] at e1
      subst e1
      have hp0 : ∃ xs : List Int, (∀ x ∈ xs, 0 ≤ x ∧ x ≤ 18446744073709551615) ∧ RdU W v0 xs := by
        rcases open_ints Tryz.underlying48 Tryz.underlying49 (by kernel_rfl) d0 with ⟨hcs, _⟩ | ⟨x, l, c, zs, hcs, _, hl, hm, hz, _, hcell, hwz⟩
        · simp only [List.cons.injEq, and_true] at hcs
          subst hcs
          exact ⟨[], fun x hx => by simp at hx, RdU.nil _ _ _⟩
        · simp only [List.cons.injEq, and_true] at hcs
          subst hcs
          obtain ⟨xs, _, _, h3, h4⟩ := RdU.of_row (w := W) (a := some x) (len := l) (cap := c) (zs := zs) (.inr ⟨_, rfl, hl, hm, by simpa using hz, hcell, hwz⟩)
          exact ⟨xs, h3, h4⟩
      obtain ⟨xs0, hx0, hv0⟩ := hp0
      have ho0 : ∀ y ∈ xs0.map Int.toNat, y < 2 ^ 64 := fun y hy => by
        simp only [List.mem_map] at hy
        obtain ⟨z, hz, rfl⟩ := hy
        have := hx0 z hz
        omega
      have g1 := bounds_u64 w1
      refine ⟨(⟨xs0.map Int.toNat, i1.toNat⟩ : En), ⟨ho0, by show i1.toNat < 2 ^ 64; omega⟩, b, o, rfl, ?_⟩
      have z0 : W.cell? ⟨b, o + i * 2, none⟩ = some v0 := by simpa [Nat.add_assoc] using c0
      have y0' : RdU W v0 (pti (xs0.map Int.toNat)) := by rw [pti_toNat hx0]; exact hv0
      have z1 : W.cell? ⟨b, o + i * 2 + 1, none⟩ = some (.int .u64 (i1.toNat : Nat)) := by rw [show ((i1.toNat : Nat) : Int) = i1 by omega]; simpa [Nat.add_assoc] using c1
      exact ⟨v0, by simpa [Nat.add_assoc] using z0, y0', by simpa [Nat.add_assoc] using z1⟩
    obtain ⟨f, hF⟩ := choose_lt each
    refine ⟨(List.range len).map f, ⟨some a, cap, by simp, ⟨by simp; omega, hm, fun h => by obtain ⟨b, o, ha⟩ := hab h; exact ⟨b, o, by rw [ha]⟩⟩, fun hp => ?_⟩, ?_, by simp; omega, some a, len, cap, rfl, hl, hm, fun h => ?_⟩
    · have hp' : 0 < len := by simpa using hp
      obtain ⟨_, b, o, ha, _⟩ := hF 0 hp'
      refine ⟨b, o, by rw [ha], fun j hj => ?_⟩
      obtain ⟨_, b', o', ha', hc⟩ := hF j (by simpa using hj)
      rw [ha] at ha'
      injection ha' with e1 e2
      subst e1 e2
      simpa using hc
    · intro c hc
      simp only [List.mem_map, List.mem_range] at hc
      obtain ⟨j, hj, rfl⟩ := hc
      exact (hF j hj).1
    · obtain ⟨b, o, ha⟩ := hab h
      exact ⟨b, o, by rw [ha]⟩
end Go.Proofs.YtjokcagggmjgmaaGreat
/-! LawMakes -/
namespace Go.Proofs.YtjokcagggmjgmaaGreat
open Go.RowKit
set_option linter.unusedVariables false
set_option linter.unusedSimpArgs false
set_option maxRecDepth 100000

theorem heavyA_ok4 {l : List Ac} {most : Nat} (h : heavyL l most = false) : l.length ≤ most ∧ ∀ a ∈ l, a.p.length ≤ 40 := by
  unfold heavyL at h
  rw [Bool.or_eq_false_iff] at h
  refine ⟨by have := of_decide_eq_false h.1; omega, fun a ha => ?_⟩
  have := List.any_eq_false.1 h.2 a ha
  simp at this
  omega
theorem heavyE_ok {l : List En} {most : Nat} (h : heavyE l most = false) : l.length ≤ most ∧ ∀ a ∈ l, a.p.length ≤ 40 := by
  unfold heavyE at h
  rw [Bool.or_eq_false_iff] at h
  refine ⟨by have := of_decide_eq_false h.1; omega, fun a ha => ?_⟩
  have := List.any_eq_false.1 h.2 a ha
  simp at this
  omega
set_option maxHeartbeats 8000000 in
theorem bulkMakes_any (w : World) (k : Int) (l : List En) (acts : List Ac) (vl va : Value) (hv : RdE w vl l) (hvo : ∀ e ∈ l, e.OkV) (hvl : l.length ≤ maxLen) (ha : RdA w va acts) (hao : ∀ a ∈ acts, a.OkV) (hal : acts.length ≤ maxLen) :
    Calls Tryz.prog 4 #[.int .i64 k, vl, va] w fun e w' => e = .returned (.bool true) ∧ Below w.heap.size w w' := by
  have HAW := Lib.hid (fun w' => awk_any w')
  have HHE := Lib.hid (fun w' (hb : Below w.heap.size w w') => heavyE_any w' l vl 50 (hv.below hb) hvl)
  have HHA := Lib.hid (fun w' (hb : Below w.heap.size w w') => heavyA_any w' acts va 30 (ha.below hb) hal)
  have HA := Lib.hid (And.intro ha (And.intro hao hal))
  have HV := Lib.hid (And.intro hv (And.intro hvo hvl))
  have HMB0 := Lib.hid (fun (h : k < 1 ∨ 16 < k) w' (hb : Below w.heap.size w w') => make_bad w' k vl l (hv.below hb) h)
  obtain ⟨A1, q1, rfl, z1⟩ := ha
  obtain ⟨A2, cq, rfl, z2⟩ := hv
  clear z1 z2 hao hal hvo hvl
  obtain ⟨hh, hhe⟩ : ∃ b, heavyE l 50 = b := ⟨_, rfl⟩
  obtain ⟨ha, hha⟩ : ∃ b, heavyL acts 30 = b := ⟨_, rfl⟩
  rw [hhe] at HHE
  rw [hha] at HHA
  have HHH := Lib.hid (And.intro hhe hha)
  clear hhe hha
  cases hh with
  | true =>
    go_enter Tryz.func4, Tryz.ntmps4
    go_wp2_with fail
    refine (HAW.out _).mono ?_
    rintro e w1 ⟨rfl, hb1⟩
    have HB := Lib.hid hb1
    clear hb1
    go_wp2_with fail
    refine (HHE.out _ HB.out).mono ?_
    rintro e w2 ⟨rfl, hw⟩
    obtain rfl := hw.symm
    clear hw
    go_wp2_with fail
    go_ret
    exact ⟨rfl, HB.out⟩
  | false =>
  cases ha with
  | true =>
    go_enter Tryz.func4, Tryz.ntmps4
    go_wp2_with fail
    refine (HAW.out _).mono ?_
    rintro e w1 ⟨rfl, hb1⟩
    have HB := Lib.hid hb1
    clear hb1
    go_wp2_with fail
    refine (HHE.out _ HB.out).mono ?_
    rintro e w2 ⟨rfl, hw⟩
    obtain rfl := hw.symm
    clear hw
    go_wp2_with fail
    refine (HHA.out _ HB.out).mono ?_
    rintro e w2 ⟨rfl, hw⟩
    obtain rfl := hw.symm
    clear hw
    go_wp2_with fail
    go_ret
    exact ⟨rfl, HB.out⟩
  | false =>
    by_cases h1 : k < 1
    · have HMB := Lib.hid (HMB0.out (.inl h1))
      go_enter Tryz.func4, Tryz.ntmps4
      go_wp2_with fail
      refine (HAW.out _).mono ?_
      rintro e w1 ⟨rfl, hb1⟩
      have HB := Lib.hid hb1
      clear hb1
      go_wp2_with fail
      refine (HHE.out _ HB.out).mono ?_
      rintro e w2 ⟨rfl, hw⟩
      obtain rfl := hw.symm
      clear hw
      go_wp2_with fail
      refine (HHA.out _ HB.out).mono ?_
      rintro e w2 ⟨rfl, hw⟩
      obtain rfl := hw.symm
      clear hw
      go_wp2_with fail
      refine (HMB.out _ HB.out).mono ?_
      rintro e w2 ⟨rfl, hw⟩
      obtain rfl := hw.symm
      clear hw
      go_wp2_with fail
      go_ret
      exact ⟨rfl, HB.out⟩
    · by_cases h2 : k > 16
      · have HMB := Lib.hid (HMB0.out (.inr h2))
        go_enter Tryz.func4, Tryz.ntmps4
        go_wp2_with fail
        refine (HAW.out _).mono ?_
        rintro e w1 ⟨rfl, hb1⟩
        have HB := Lib.hid hb1
        clear hb1
        go_wp2_with fail
        refine (HHE.out _ HB.out).mono ?_
        rintro e w2 ⟨rfl, hw⟩
        obtain rfl := hw.symm
        clear hw
        go_wp2_with fail
        refine (HHA.out _ HB.out).mono ?_
        rintro e w2 ⟨rfl, hw⟩
        obtain rfl := hw.symm
        clear hw
        go_wp2_with fail
        refine (HMB.out _ HB.out).mono ?_
        rintro e w2 ⟨rfl, hw⟩
        obtain rfl := hw.symm
        clear hw
        go_wp2_with fail
        go_ret
        exact ⟨rfl, HB.out⟩
      · obtain ⟨n, rfl⟩ : ∃ n : Nat, k = n := ⟨k.toNat, by omega⟩
        have hokE := heavyE_ok HHH.out.1
        have hokA := heavyA_ok4 HHH.out.2
        have hl50 : l.length ≤ 50 := hokE.1
        have ha30 : acts.length ≤ 30 := hokA.1
        have n1 : 1 ≤ n := by omega
        have n16 : n ≤ 16 := by omega
        have HGR := Lib.hid (fun W (hb : Below w.heap.size w W) => grown_any W n acts _ n1 n16 (HA.out.1.below hb) (fun a ha => ⟨hokA.2 a ha, HA.out.2.1 a ha⟩) (by omega))
        have hil : (playL n [] acts).length ≤ 30 := by have := play_len n [] acts; simp at this; omega
        have HRD := Lib.hid (fun W (hb : Below w.heap.size w W) => rDims_any W (n : Nat) l _ (HV.out.1.below hb) (by omega))
        have HPU := Lib.hid (fun W t in_ (hb : Below w.heap.size w W) (ht : TrR W t n in_) => puts_any W t n in_ l _ ht (HV.out.1.below hb) (by omega) HV.out.2.1)
        obtain ⟨in_, hinn⟩ : ∃ x, playL n [] acts = x := ⟨_, rfl⟩
        rw [hinn] at hil
        have HN := Lib.hid (And.intro n1 (And.intro n16 (And.intro hl50 (And.intro hil hinn))))
        cases hdm : dimsL (n : Nat) l with
        | false =>
          have HMD := Lib.hid (fun W (hb : Below w.heap.size w W) => make_dim W n _ l (HV.out.1.below hb) (by omega) n1 n16 hdm)
          have HPD := Lib.hid hdm
          rw [hdm] at HRD
          unfold PutsR at HPU
          rw [hdm] at HPU
          clear hokE hokA hl50 ha30 hil hinn n1 n16 hdm
          go_enter Tryz.func4, Tryz.ntmps4
          go_wp2_with fail
          refine (HAW.out _).mono ?_
          rintro e w1 ⟨rfl, hb1⟩
          have HB := Lib.hid hb1
          clear hb1
          go_wp2_with fail
          refine (HHE.out _ HB.out).mono ?_
          rintro e w2 ⟨rfl, hw⟩
          obtain rfl := hw.symm
          clear hw
          go_wp2_with fail
          refine (HHA.out _ HB.out).mono ?_
          rintro e w2 ⟨rfl, hw⟩
          obtain rfl := hw.symm
          clear hw
          go_wp2_with fail
          refine (HMD.out _ HB.out).mono ?_
          rintro e w2 ⟨rfl, hb2⟩
          have HB2 := Lib.hid (HB.out.trans (hb2.mono HB.out.size))
          clear hb2
          go_wp2_with fail
          refine (HGR.out _ HB2.out).mono ?_
          rintro e w3 ⟨t, vin, rfl, ht, hin, hb3⟩
          have HB3 := Lib.hid (HB2.out.trans (hb3.mono HB2.out.size))
          have HP3 := Lib.hid (HPU.out w3 t _ HB3.out ht)
          obtain ⟨A3, q3, rfl, _⟩ := hin
          clear hb3 ht
          go_wp2_with fail
          refine HP3.out.mono ?_
          rintro e w4 ⟨hb4, hcase⟩
          obtain rfl : e = .returned (.tuple #[.pointer none, .int .i64 2]) := hcase
          have HB4 := Lib.hid (HB3.out.trans (hb4.mono HB3.out.size))
          clear hb4
          go_wp2_with fail
          refine (HRD.out _ HB4.out).mono ?_
          rintro e w5 ⟨rfl, hw⟩
          obtain rfl := hw.symm
          clear hw
          go_wp2_with fail
          go_ret
          exact ⟨rfl, HB4.out⟩
        | true =>
          have hlk := dimsL_true hdm
          have hkk : ∀ e ∈ l, e.p.length = n ∧ ∀ q ∈ e.p, q < 2 ^ 64 := fun e he => ⟨hlk e he, (HV.out.2.1 e he).1⟩
          have HLK := Lib.hid hkk
          have HMK := Lib.hid (fun W (hb : Below w.heap.size w W) => make_any 1000 sort_any W n l _ (HV.out.1.below hb) (by omega) (by omega) n1 n16 hkk (fun e he => (HV.out.2.1 e he).2))
          have HAL := Lib.hid (fun W (hb : Below w.heap.size w W) => rAll_any W n l _ (HV.out.1.below hb) (by omega) (by omega) hkk)
          have HES := Lib.hid (show ∀ (in_ : List En), Et n in_ → in_.length ≤ 30 → ∀ m : List En, (∀ e ∈ m, e ∈ l) → m.length ≤ 50 → EtS n (putsL in_ m) from fun in_ h1 h2 m h3 h4 => ⟨h1.puts fun e he => hkk e (h3 e he), by omega, Nat.le_trans (puts_len _ _) (by omega)⟩)
          rw [hdm] at HRD
          unfold PutsR at HPU
          rw [hdm] at HPU
          clear hokE hokA hl50 ha30 hil hinn n1 n16 hdm hlk hkk
          go_enter Tryz.func4, Tryz.ntmps4
          go_wp2_with fail
          refine (HAW.out _).mono ?_
          rintro e w1 ⟨rfl, hb1⟩
          have HB := Lib.hid hb1
          clear hb1
          go_wp2_with fail
          refine (HHE.out _ HB.out).mono ?_
          rintro e w2 ⟨rfl, hw⟩
          obtain rfl := hw.symm
          clear hw
          go_wp2_with fail
          refine (HHA.out _ HB.out).mono ?_
          rintro e w2 ⟨rfl, hw⟩
          obtain rfl := hw.symm
          clear hw
          go_wp2_with fail
          refine (HMK.out _ HB.out).mono ?_
          rintro e w2 ⟨t2, rfl, ht2, hb2⟩
          have HB2 := Lib.hid (HB.out.trans (hb2.mono HB.out.size))
          have HT2 := Lib.hid ht2
          clear hb2 ht2
          go_wp2_with fail
          refine (HGR.out _ HB2.out).mono ?_
          rintro e w3 ⟨t, vin, rfl, ht, hin, hb3⟩
          rw [HN.out.2.2.2.2] at ht hin
          have HB3 := Lib.hid (HB2.out.trans (hb3.mono HB2.out.size))
          have HW23 := Lib.hid hb3
          have HP3 := Lib.hid (HPU.out w3 t _ HB3.out ht)
          have HIN := Lib.hid (And.intro ht hin)
          obtain ⟨A3, q3, rfl, _⟩ := hin
          clear hb3 ht
          go_wp2_with fail
          refine HP3.out.mono ?_
          rintro e w4 ⟨hb4, hcase⟩
          obtain ⟨g4, rfl, hg4⟩ : ∃ g, e = .returned (.tuple #[.pointer (some ⟨g, 0, none⟩), .int .i64 0]) ∧ TrR w4 g n (putsL in_ l) := hcase
          have HB4 := Lib.hid (HB3.out.trans (hb4.mono HB3.out.size))
          have HW24 := Lib.hid (HW23.out.trans (hb4.mono HW23.out.size))
          have HW34 := Lib.hid hb4
          have HG4 := Lib.hid hg4
          clear hb4 hg4
          go_wp2_with fail
          refine (HRD.out _ HB4.out).mono ?_
          rintro e w5 ⟨rfl, hw⟩
          obtain rfl := hw.symm
          clear hw
          go_wp2_with fail
          go_loopw [10, 14] (fun vo i wr => ∃ (j : Nat), j ≤ l.length ∧ i = .int .i64 (j : Nat) ∧ RdE wr vo (putsL in_ (l.take j)) ∧ Below w4.heap.size w4 wr) (fun _ i _ => l.length - (intOf i).toNat)
          case atStart => exact ⟨0, Nat.zero_le _, rfl, HIN.out.2.below HW34.out, Below.refl _ _⟩
          case round =>
            obtain ⟨j, hj, rfl, hcur, hb⟩ := hrel
            have HB5 := Lib.hid hb
            by_cases hlt : j < l.length
            · have h3 : (j : Int) < l.length := by omega
              have h5 : (0 : Int) ≤ (j : Int) := by omega
              have HW := Lib.hid (show wrap64 ((j : Int) + 1) = ((j + 1 : Nat) : Int) by have := HN.out.2.2.1; unfold wrap64; omega)
              have hbw := HB4.out.trans (hb.mono HB4.out.size)
              obtain ⟨A', c', e', _, hx⟩ := HV.out.1.below hbw
              simp only [Value.slice.injEq] at e'
              obtain ⟨rfl, _, rfl⟩ := e'
              obtain ⟨bk, ofs, rfl, hc⟩ := hx (by omega)
              obtain ⟨u, k0, ku, k1⟩ := hc j hlt
              have HTK := Lib.hid (show putsL in_ (l.take (j + 1)) = insE l[j].p l[j].v (putsL in_ (l.take j)) by rw [← List.take_append_getElem hlt, puts_append]; rfl)
              have hlk := HLK.out _ (List.getElem_mem hlt)
              have hes : EtS n (putsL in_ (l.take j)) := HES.out in_ HIN.out.1.et HN.out.2.2.2.1 (l.take j) (fun e he => List.mem_of_mem_take he) (by rw [List.length_take]; have := HN.out.2.2.1; omega)
              have HPUT := Lib.hid (fun (W : World) (hb2 : Below wr.heap.size wr W) => rPut_any n (putsL in_ (l.take j)) l[j].p l[j].v u10 u W (hcur.below hb2) (ku.below hb2) hes ⟨hlk.1, hlk.2⟩)
              obtain ⟨A5, c5, rfl, _⟩ := hcur
              obtain ⟨A0, cc, rfl, _⟩ := RdU.point ku
              rw [hlk.1] at k0 HPUT
              have hblt : bk < wr.heap.size := World.block_lt_of_cell? wr _ k0
              obtain ⟨cur, hcr⟩ : ∃ cur, putsL in_ (l.take j) = cur := ⟨_, rfl⟩
              rw [hcr] at HPUT HTK ⊢
              generalize l[j].p = xp at *
              generalize l[j].v = xv at *
              clear hc hx ku hb hlk hes hcr hbw
              go_wp2_with fail
              refine wp_region_vals 12 [fun z9 _ => z9 = .slice A5 cur.length c5,
                fun z9 _ => z9 = .slice (some ⟨bk, ofs, none⟩) l.length cq,
                fun z9 _ => z9 = .int .i64 (j : Nat),
                fun z9 _ => z9 = .pointer (some ⟨bk, ofs + j * 2, none⟩),
                fun z9 _ => z9 = .pointer (some ⟨bk, ofs + j * 2, none⟩),
                fun z9 _ => z9 = .slice A0 n cc,
                fun z9 _ => z9 = .slice (some ⟨bk, ofs, none⟩) l.length cq,
                fun z9 _ => z9 = .int .i64 (j : Nat),
                fun z9 _ => z9 = .pointer (some ⟨bk, ofs + j * 2, none⟩),
                fun z9 _ => z9 = .pointer (some ⟨bk, ofs + j * 2 + 1, none⟩),
                fun z9 _ => z9 = .int .u64 (xv : Nat),
                fun v9 w9 => RdE w9 v9 (insE xp xv cur)]
                (by kernel_rfl) (by kernel_rfl) (by kernel_rfl) (by kernel_rfl) ?_ ?_ ?_
              · intro V hV v w1 w2 h hb
                simp only [List.mem_cons, List.not_mem_nil, or_false] at hV
                rcases hV with rfl | rfl | rfl | rfl | rfl | rfl | rfl | rfl | rfl | rfl | rfl | rfl
                all_goals first | exact h | (exact RdE.below h hb)
              · intro iq oq hiq hoq
                match iq, hiq with
                | 0, _ =>
                obtain rfl := Option.some.inj hoq
                intro a1 w1 K hk hK
                have e10 : a1.tmps.getD 10 undef = .slice A5 cur.length c5 := hk.same 10 (by simp)
                simp [Region.wanted, Oper.wp, Act.eval, go_sem, e10, h3, h5, k0, k1]
                exact hK _ _ (Below.refl _ _) rfl
                | 1, _ =>
                obtain rfl := Option.some.inj hoq
                intro a1 w1 K hk hK
                have e1 : a1.tmps.getD 1 undef = .slice (some ⟨bk, ofs, none⟩) l.length cq := hk.same 1 (by simp)
                simp [Region.wanted, Oper.wp, Act.eval, go_sem, e1, h3, h5, k0, k1]
                exact hK _ _ (Below.refl _ _) rfl
                | 2, _ =>
                obtain rfl := Option.some.inj hoq
                intro a1 w1 K hk hK
                have e14 : a1.tmps.getD 14 undef = .int .i64 (j : Nat) := hk.same 14 (by simp)
                simp [Region.wanted, Oper.wp, Act.eval, go_sem, e14, h3, h5, k0, k1]
                exact hK _ _ (Below.refl _ _) rfl
                | 3, _ =>
                obtain rfl := Option.some.inj hoq
                intro a1 w1 K hk hK
                have d81 : a1.tmps.getD 81 undef = .slice (some ⟨bk, ofs, none⟩) l.length cq := hk.deps ⟨1, .data⟩ (by simp) rfl _ _ rfl rfl
                have d82 : a1.tmps.getD 82 undef = .int .i64 (j : Nat) := hk.deps ⟨2, .data⟩ (by simp) rfl _ _ rfl rfl
                simp [Region.wanted, Oper.wp, Act.eval, go_sem, d81, d82, h3, h5, k0, k1]
                exact hK _ _ (Below.refl _ _) rfl
                | 4, _ =>
                obtain rfl := Option.some.inj hoq
                intro a1 w1 K hk hK
                have d83 : a1.tmps.getD 83 undef = .pointer (some ⟨bk, ofs + j * 2, none⟩) := hk.deps ⟨3, .data⟩ (by simp) rfl _ _ rfl rfl
                simp [Region.wanted, Oper.wp, Act.eval, go_sem, d83, h3, h5, k0, k1]
                exact hK _ _ (Below.refl _ _) rfl
                | 5, _ =>
                obtain rfl := Option.some.inj hoq
                intro a1 w1 K hk hK
                have d84 : a1.tmps.getD 84 undef = .pointer (some ⟨bk, ofs + j * 2, none⟩) := hk.deps ⟨4, .data⟩ (by simp) rfl _ _ rfl rfl
                have c0 : w1.cell? ⟨bk, ofs + j * 2, none⟩ = some (.slice A0 n cc) := Below.keeps hk.ext _ _ (by simp [go_sem, h3, h5, k0, k1])
                have c1 : w1.cell? ⟨bk, ofs + j * 2 + 1, none⟩ = some (.int .u64 (xv : Nat)) := Below.keeps hk.ext _ _ (by simp [go_sem, h3, h5, k0, k1])
                simp [Region.wanted, Oper.wp, Act.eval, go_sem, d84, c0, c1, h3, h5, k0, k1]
                exact hK _ _ (Below.refl _ _) rfl
                | 6, _ =>
                obtain rfl := Option.some.inj hoq
                intro a1 w1 K hk hK
                have e1 : a1.tmps.getD 1 undef = .slice (some ⟨bk, ofs, none⟩) l.length cq := hk.same 1 (by simp)
                simp [Region.wanted, Oper.wp, Act.eval, go_sem, e1, h3, h5, k0, k1]
                exact hK _ _ (Below.refl _ _) rfl
                | 7, _ =>
                obtain rfl := Option.some.inj hoq
                intro a1 w1 K hk hK
                have e14 : a1.tmps.getD 14 undef = .int .i64 (j : Nat) := hk.same 14 (by simp)
                simp [Region.wanted, Oper.wp, Act.eval, go_sem, e14, h3, h5, k0, k1]
                exact hK _ _ (Below.refl _ _) rfl
                | 8, _ =>
                obtain rfl := Option.some.inj hoq
                intro a1 w1 K hk hK
                have d86 : a1.tmps.getD 86 undef = .slice (some ⟨bk, ofs, none⟩) l.length cq := hk.deps ⟨6, .data⟩ (by simp) rfl _ _ rfl rfl
                have d87 : a1.tmps.getD 87 undef = .int .i64 (j : Nat) := hk.deps ⟨7, .data⟩ (by simp) rfl _ _ rfl rfl
                simp [Region.wanted, Oper.wp, Act.eval, go_sem, d86, d87, h3, h5, k0, k1]
                exact hK _ _ (Below.refl _ _) rfl
                | 9, _ =>
                obtain rfl := Option.some.inj hoq
                intro a1 w1 K hk hK
                have d88 : a1.tmps.getD 88 undef = .pointer (some ⟨bk, ofs + j * 2, none⟩) := hk.deps ⟨8, .data⟩ (by simp) rfl _ _ rfl rfl
                simp [Region.wanted, Oper.wp, Act.eval, go_sem, d88, h3, h5, k0, k1]
                exact hK _ _ (Below.refl _ _) rfl
                | 10, _ =>
                obtain rfl := Option.some.inj hoq
                intro a1 w1 K hk hK
                have d89 : a1.tmps.getD 89 undef = .pointer (some ⟨bk, ofs + j * 2 + 1, none⟩) := hk.deps ⟨9, .data⟩ (by simp) rfl _ _ rfl rfl
                have c0 : w1.cell? ⟨bk, ofs + j * 2, none⟩ = some (.slice A0 n cc) := Below.keeps hk.ext _ _ (by simp [go_sem, h3, h5, k0, k1])
                have c1 : w1.cell? ⟨bk, ofs + j * 2 + 1, none⟩ = some (.int .u64 (xv : Nat)) := Below.keeps hk.ext _ _ (by simp [go_sem, h3, h5, k0, k1])
                simp [Region.wanted, Oper.wp, Act.eval, go_sem, d89, c0, c1, h3, h5, k0, k1]
                exact hK _ _ (Below.refl _ _) rfl
                | 11, _ =>
                obtain rfl := Option.some.inj hoq
                intro a1 w1 K hk hK
                have d80 : a1.tmps.getD 80 undef = .slice A5 cur.length c5 := hk.deps ⟨0, .data⟩ (by simp) rfl _ _ rfl rfl
                have d85 : a1.tmps.getD 85 undef = .slice A0 n cc := hk.deps ⟨5, .data⟩ (by simp) rfl _ _ rfl rfl
                have d90 : a1.tmps.getD 90 undef = .int .u64 (xv : Nat) := hk.deps ⟨10, .data⟩ (by simp) rfl _ _ rfl rfl
                simp [Region.wanted, Oper.wp, Act.eval, go_sem, d80, d85, d90, h3, h5, k0, k1]
                refine (HPUT.out _ (below_trans (by repeat (first | exact Below.refl _ _ | (refine Below.drew ?_) | (refine below_drewN' ?_ _) | (refine below_alloc' ?_ _) | (refine Below.setCell ?_ (by first | exact Nat.le_refl _ | (simp; done) | (simp; omega)) _))) hk.ext)).mono ?_
                rintro e w9 ⟨v9, rfl, hr9, hb9⟩
                exact hK _ _ hb9 hr9
              · intro vs w3 hl hb3 hv
                match vs, hl with
                | [v0, v1, v2, v3, v4, v5, v6, v7, v8, v9, v10, v11], _ =>
                obtain rfl : v0 = .slice A5 cur.length c5 := hv 0 (by omega)
                obtain rfl : v1 = .slice (some ⟨bk, ofs, none⟩) l.length cq := hv 1 (by omega)
                obtain rfl : v2 = .int .i64 (j : Nat) := hv 2 (by omega)
                obtain rfl : v3 = .pointer (some ⟨bk, ofs + j * 2, none⟩) := hv 3 (by omega)
                obtain rfl : v4 = .pointer (some ⟨bk, ofs + j * 2, none⟩) := hv 4 (by omega)
                obtain rfl : v5 = .slice A0 n cc := hv 5 (by omega)
                obtain rfl : v6 = .slice (some ⟨bk, ofs, none⟩) l.length cq := hv 6 (by omega)
                obtain rfl : v7 = .int .i64 (j : Nat) := hv 7 (by omega)
                obtain rfl : v8 = .pointer (some ⟨bk, ofs + j * 2, none⟩) := hv 8 (by omega)
                obtain rfl : v9 = .pointer (some ⟨bk, ofs + j * 2 + 1, none⟩) := hv 9 (by omega)
                obtain rfl : v10 = .int .u64 (xv : Nat) := hv 10 (by omega)
                have q11 : RdE w3 v11 (insE xp xv cur) := hv 11 (by omega)
                clear hv
                simp only [putAll, List.take_succ_cons, List.take_zero, List.drop_succ_cons, List.drop_zero, Act.put, List.setIfInBounds_toArray, List.set_cons_succ, List.set_cons_zero]
                have HF := Lib.hid (And.intro q11 (HB5.out.trans (hb3.mono HB5.out.size)))
                clear hb3
                obtain ⟨A6, c6, rfl, _⟩ := id q11
                clear q11
                go_wp2_with fail
                go_roundw
                case rel => exact ⟨j + 1, by omega, (by first | rw [HW.out] | rfl | simp), by rw [HTK.out]; exact HF.out.1, HF.out.2⟩
                case measure => (first | (rw [intOf_of' HW.out, intOf_of' rfl]; omega) | (simp [intOf]; omega) | (simp [intOf] <;> omega))
            · have h3 : ¬ (j : Int) < (l.length : Int) := by omega
              have e : l.take j = l := List.take_of_length_le (by omega)
              rw [e] at hcur
              have HC := Lib.hid hcur
              obtain ⟨A5, c5, rfl, _⟩ := hcur
              have HB5w := Lib.hid (HB4.out.trans (hb.mono HB4.out.size))
              have HW25 := Lib.hid (HW24.out.trans (hb.mono HW24.out.size))
              clear hb e
              go_wp2_with fail
              refine (HAL.out _ HB5w.out).mono ?_
              rintro e w6 ⟨v6, rfl, hr6, hb6⟩
              have HB6 := Lib.hid (HB5w.out.trans (hb6.mono HB5w.out.size))
              have HI6 := Lib.hid (is07_any w6 t2 n (putsL [] l) v6 (HT2.out.bel (HW25.out.trans (hb6.mono HW25.out.size))) hr6 (HES.out [] (Et.nil n) (by simp) l (fun e he => he) HN.out.2.2.1))
              have HI7 := Lib.hid (fun W (hb : Below w6.heap.size w6 W) => is07_any W g4 n (putsL in_ l) _ (HG4.out.bel ((HB5.out.trans (hb6.mono HB5.out.size)).trans (hb.mono (HB5.out.trans (hb6.mono HB5.out.size)).size))) ((HC.out.below hb6).below hb) (HES.out in_ HIN.out.1.et HN.out.2.2.2.1 l (fun e he => he) HN.out.2.2.1))
              obtain ⟨A6, c6, rfl, _⟩ := hr6
              clear hb6
              go_wp2_with fail
              refine HI6.out.mono ?_
              rintro e w7 ⟨rfl, hb7⟩
              have HB7 := Lib.hid hb7
              clear hb7
              go_wp2_with fail
              refine (HI7.out _ HB7.out).mono ?_
              rintro e w8 ⟨rfl, hb8⟩
              have HB8 := Lib.hid (HB6.out.trans ((HB7.out.trans (hb8.mono HB7.out.size)).mono HB6.out.size))
              clear hb8
              go_wp2_with fail
              go_ret
              exact ⟨rfl, HB8.out⟩
end Go.Proofs.YtjokcagggmjgmaaGreat
