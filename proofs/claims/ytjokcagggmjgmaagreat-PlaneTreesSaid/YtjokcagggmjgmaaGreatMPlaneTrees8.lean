/-
  Texts that the proof of PlaneTrees leans on, part 8: contracts of functions, and plain laws.
-/
import Derived.Test.YtjokcagggmjgmaaGreatMPlaneTrees7
import Derived.Laws.EntriesVeiled
import Derived.Deep.Slices
import Derived.Deep.Fields
import Derived.ChangeSame
import Derived.ProofKit
import Derived.OpenShut
import Derived.ScopeJumps
import Derived.WalkMore
/-! SrtJ -/
namespace Go.Proofs.YtjokcagggmjgmaaGreat
open Go.RowKit
set_option linter.unusedVariables false
set_option linter.unusedSimpArgs false
set_option maxRecDepth 100000

/-- one half is done -/
structure Half (W0 w : World) (g n : Nat) (X L M Y : List Pe) : Prop where
  pr : PR W0 w g n (X ++ (M ++ Y))
  len : M.length = L.length
  stb : Stb L M
  srt : Srt M
theorem wrapi_sub {a i p : Nat} (h : p + i = a) (hb : a ≤ 100000) : IntKind.i64.wrap ((a : Int) - (i : Int)) = (p : Int) := by rw [IntKind.wrap_i64]; omega
set_option maxHeartbeats 16000000 in
theorem sym_gen (W0 w : World) (g n a mm b m c k : Nat) (X A B Y : List Pe) (ha : X.length = a) (hmm : a + A.length = mm) (hb : mm + B.length = b) (hm : b + Y.length = m) (hmx : m ≤ 1000) (hA2 : 2 ≤ A.length) (hB2 : 2 ≤ B.length) (k1 : 1 ≤ k) (k16 : k ≤ 16)
    (h : PR W0 w g n (X ++ (A ++ (B ++ Y)))) (hk : ∀ x' ∈ X ++ (A ++ (B ++ Y)), x'.2.p.length = k ∧ ∀ q ∈ x'.2.p, q < 2 ^ 64) (hA : Srt A) (hB : Srt B)
    (ih : ∀ (w' : World) (a' mm' b' : Nat) (X' A' B' Y' : List Pe), A'.length + B'.length < A.length + B.length → X'.length = a' → a' + A'.length = mm' → mm' + B'.length = b' → b' + Y'.length = m → A' ≠ [] → B' ≠ [] → PR W0 w' g n (X' ++ (A' ++ (B' ++ Y'))) →
      (∀ x' ∈ X' ++ (A' ++ (B' ++ Y')), x'.2.p.length = k ∧ ∀ q ∈ x'.2.p, q < 2 ^ 64) → Srt A' → Srt B' → Calls Tryz.prog 179 #[.slice (some ⟨g, 0, none⟩) m c, .int .i64 (a' : Nat), .int .i64 (mm' : Nat), .int .i64 (b' : Nat), .func (.func 119) #[] #[]] w' fun e w'' => MrgR W0 g n X' (A' ++ B') Y' e w'') :
    Calls Tryz.prog 179 #[.slice (some ⟨g, 0, none⟩) m c, .int .i64 (a : Nat), .int .i64 (mm : Nat), .int .i64 (b : Nat), .func (.func 119) #[] #[]] w fun e w' => MrgR W0 g n X (A ++ B) Y e w' := by
  have hent := enters_lit' Tryz.func119 (by kernel_rfl) (by kernel_rfl)
  have HP00 := Lib.hid h
  have HD := Lib.hid (And.intro ha (And.intro hmm (And.intro hb (And.intro hm hmx))))
  have HK := Lib.hid (And.intro hk (And.intro k1 (And.intro k16 (And.intro hA hB))))
  have HIH := Lib.hid ih
  obtain ⟨la, hla⟩ : ∃ la, A.length = la := ⟨_, rfl⟩
  obtain ⟨lb, hlb⟩ : ∃ lb, B.length = lb := ⟨_, rfl⟩
  have hl1 : ¬ (la : Int) = 1 := by omega
  have hl2 : ((la : Int) == 1) = false := by simpa using hl1
  have hl3 : ¬ (lb : Int) = 1 := by omega
  have hl4 : ((lb : Int) == 1) = false := by simpa using hl3
  obtain ⟨mid, hmid⟩ : ∃ mid, mid = (a + b) / 2 := ⟨_, rfl⟩
  obtain ⟨N, hN⟩ : ∃ N, N = mid + mm := ⟨_, rfl⟩
  have hcb := CutB.of (mm := mm) hmid (by omega) (by omega)
  obtain ⟨lo, hlo⟩ : ∃ lo, (if mm > mid then mid + mm - b else a) = lo := ⟨_, rfl⟩
  obtain ⟨hi, hhi⟩ : ∃ hi, (if mm > mid then mid else mm) = hi := ⟨_, rfl⟩
  rw [hlo, hhi] at hcb
  have HCB := Lib.hid hcb
  have hmain : (mm > mid ∧ lo = N - b ∧ hi = mid) ∨ (¬ mm > mid ∧ lo = a ∧ hi = mm) := by
    by_cases h9 : mm > mid
    · rw [if_pos h9] at hlo hhi; exact .inl ⟨h9, by omega, by omega⟩
    · rw [if_neg h9] at hlo hhi; exact .inr ⟨h9, by omega, by omega⟩
  have HNE := Lib.hid hN
  obtain ⟨p, hp⟩ : ∃ p, p + 1 = N := ⟨N - 1, by have := hcb.am; omega⟩
  have HPN := Lib.hid hp
  have HW1 := Lib.hid (show wrap64 ((mm : Int) - (a : Int)) = (la : Int) from wrap_sub (by omega) (by omega))
  have HW2 := Lib.hid (show wrap64 ((b : Int) - (mm : Int)) = (lb : Int) from wrap_sub (by omega) (by omega))
  have HMD := Lib.hid (mid_eq hmid.symm (by omega))
  have HNN := Lib.hid (show wrap64 ((mid : Int) + (mm : Int)) = (N : Int) from wrap_add (by omega) (by omega))
  have HP := Lib.hid (show wrap64 ((N : Int) - 1) = (p : Int) from by have := wrap_sub (a := N) (i := 1) (p := p) (by omega) (by omega); exact this)
  have HNB := Lib.hid (show (mm : Int) > (mid : Int) → wrap64 ((N : Int) - (b : Int)) = (lo : Int) from fun h => wrap_sub (by have := hcb.lb; rcases hmain with ⟨h1, h2, h3⟩ | ⟨h1, h2, h3⟩ <;> omega) (by omega))
  have H0 := Lib.hid (show CutI A B a mm b mid lo hi lo hi from ⟨Nat.le_refl _, hcb.lh, Nat.le_refl _, fun c h1 h2 => by omega, fun c h1 h2 => by omega⟩)
  have hbr : ((mm : Int) > (mid : Int) ∧ lo = N - b ∧ hi = mid) ∨ (¬ (mm : Int) > (mid : Int) ∧ lo = a ∧ hi = mm) := by omega
  clear hp ha hmm hb hm hmx k1 k16 h hk hA hB hA2 hB2 hla hlb ih hmid hN hcb hlo hhi hmain
  have hw1 := HW1.out
  have hw2 := HW2.out
  have hw3 := HMD.out
  rcases hbr with ⟨hgt, hl0, hh0⟩ | ⟨hgt, hl0, hh0⟩
  all_goals
    have HLH := Lib.hid (And.intro hl0 hh0)
    clear hl0 hh0
    go_enter Tryz.func179, Tryz.ntmps179
    go_wp2_with fail
    clear hw1 hw2 hw3
    (try rw [HMD.out])
    (try rw [HNN.out])
    (try rw [HP.out])
    (try rw [HNB.out hgt])
    go_loopw [20, 21, 23] (fun sv rv _ wr => ∃ st r : Nat, sv = .int .i64 (st : Nat) ∧ rv = .int .i64 (r : Nat) ∧ CutI A B a mm b mid lo hi st r ∧ PR W0 wr g n (X ++ (A ++ (B ++ Y)))) (fun sv rv _ _ => (intOf rv).toNat - (intOf sv).toNat)
    case atStart => exact ⟨lo, hi, by first | rfl | rw [HLH.out.1], by first | rfl | rw [HLH.out.2], H0.out, HP00.out⟩
    case round =>
      obtain ⟨st, r, rfl, rfl, hI, hpr⟩ := hrel
      have HI := Lib.hid (And.intro hI hpr)
      by_cases hlt : st < r
      · obtain ⟨d1, d2, d3, d4, d5⟩ := HD.out
        have hcb := HCB.out
        have hNm := HNE.out
        have hpN := HPN.out
        obtain ⟨c9, hc9⟩ : ∃ c9, (st + r) / 2 = c9 := ⟨_, rfl⟩
        obtain ⟨i1, i2, i3, _, _⟩ := id hI
        obtain ⟨b1, b2, b3, b4, b5, b6, b7, b8, _, _⟩ := hcb
        obtain ⟨d, hd⟩ : ∃ d, c9 + d = p := ⟨p - c9, by omega⟩
        have hcA : c9 - a < A.length := by omega
        have hdB : d - mm < B.length := by omega
        have ey : (X ++ (A ++ (B ++ Y)))[d]? = some B[d - mm] := by
          rw [List.getElem?_append_right (by omega), List.getElem?_append_right (by omega), List.getElem?_append_left (by omega), show d - X.length - A.length = d - mm by omega, List.getElem?_eq_getElem hdB]
        have ex : (X ++ (A ++ (B ++ Y)))[c9]? = some A[c9 - a] := by
          rw [List.getElem?_append_right (by omega), List.getElem?_append_left (by omega), show c9 - X.length = c9 - a by omega, List.getElem?_eq_getElem hcA]
        obtain ⟨k0, k1, ry⟩ := hpr.at2 d _ ey
        obtain ⟨q0, q1, rx⟩ := hpr.at2 c9 _ ex
        have HOR := Lib.hid (ord_row hpr (List.mem_of_getElem? ey) (List.mem_of_getElem? ex) HK.out.2.1 HK.out.2.2.1 HK.out.1)
        have hdm : mid + mm - 1 - c9 - mm = d - mm := by omega
        have eB : kAt B (mid + mm - 1 - c9 - mm) = ek B[d - mm] := by rw [hdm]; exact kAt_eq hdB
        have eA : kAt A (c9 - a) = ek A[c9 - a] := kAt_eq hcA
        have HUP := Lib.hid (show ¬ ek B[d - mm] < ek A[c9 - a] → CutI A B a mm b mid lo hi (c9 + 1) r from fun h => hI.up HCB.out HK.out.2.2.2.1 HK.out.2.2.2.2 d2 d3 (by omega) (by omega) (by rw [eB, eA]; exact h))
        have HDN := Lib.hid (show ek B[d - mm] < ek A[c9 - a] → CutI A B a mm b mid lo hi st c9 from fun h => hI.down HCB.out HK.out.2.2.2.1 HK.out.2.2.2.2 d2 d3 (by omega) (by omega) (by rw [eB, eA]; exact h))
        have hth := fun r => hpr.thaw r
        have hgl := hpr.lt
        generalize A[c9 - a] = x at *
        generalize B[d - mm] = y at *
        obtain ⟨ux, px, vx⟩ := x
        obtain ⟨uy, py, vy⟩ := y
        simp only at k0 k1 q0 q1 rx ry HOR
        obtain ⟨z, hz⟩ : ∃ z, Zb.cmp py px = z := ⟨_, rfl⟩
        rw [hz] at HOR
        have HZ := Lib.hid (show z < 0 ↔ pkey py < pkey px from hz ▸ cmp_neg py px)
        have hij : (st : Int) < (r : Int) := by omega
        have hh1 : (d : Int) < (m : Int) := by omega
        have hh2 : (0 : Int) ≤ (d : Int) := by omega
        have ha1 : (c9 : Int) < (m : Int) := by omega
        have ha2 : (0 : Int) ≤ (c9 : Int) := by omega
        have HN := Lib.hid (show r - (c9 + 1) < r - st ∧ c9 - st < r - st from by omega)
        have HW2 := Lib.hid (show wrap64 ((c9 : Int) + 1) = ((c9 + 1 : Nat) : Int) from wrap_succ (by omega))
        have HDW := Lib.hid (show wrap64 ((p : Int) - (c9 : Int)) = (d : Int) from wrap_sub (by omega) (by omega))
        have HDW2 := Lib.hid (show IntKind.i64.wrap ((p : Int) - (c9 : Int)) = (d : Int) from wrapi_sub (by omega) (by omega))
        have HMW := Lib.hid (mid_eq hc9 (by omega))
        obtain ⟨Ax, cx, rfl, _⟩ := RdU.point rx
        obtain ⟨Ay, cy, rfl, _⟩ := RdU.point ry
        clear hI hpr hz ey ex rx ry hc9 hd hcA hdB hdm eB eA hlt d1 d2 d3 d4 d5 b1 b2 b3 b4 b5 b6 b7 b8 i1 i2 i3 hNm hpN
        go_wp2_with fail
        rw [HMW.out]
        have hdw := HDW.out
        have hdw2 := HDW2.out
        refine wp_region_vals 12 [fun z9 _ => z9 = .func (.func 119) #[] #[],
          fun z9 _ => z9 = .slice (some ⟨g, 0, none⟩) m c,
          fun z9 _ => z9 = .int .i64 (p : Nat),
          fun z9 _ => z9 = .int .i64 (c9 : Nat),
          fun z9 _ => z9 = .int .i64 (d : Nat),
          fun z9 _ => z9 = .pointer (some ⟨g, d * 2, none⟩),
          fun z9 _ => z9 = .agg #[.slice Ay py.length cy, .int .u64 (vy : Nat)],
          fun z9 _ => z9 = .slice (some ⟨g, 0, none⟩) m c,
          fun z9 _ => z9 = .int .i64 (c9 : Nat),
          fun z9 _ => z9 = .pointer (some ⟨g, c9 * 2, none⟩),
          fun z9 _ => z9 = .agg #[.slice Ax px.length cx, .int .u64 (vx : Nat)],
          fun z9 _ => z9 = .int .i64 z]
          (by kernel_rfl) (by kernel_rfl) (by kernel_rfl) (by kernel_rfl) ?_ ?_ ?_
        · intro V hV v w1 w2 h hb
          simp only [List.mem_cons, List.not_mem_nil, or_false] at hV
          rcases hV with rfl | rfl | rfl | rfl | rfl | rfl | rfl | rfl | rfl | rfl | rfl | rfl
          all_goals first | exact h | (exact h)
        · intro iq oq hiq hoq
          match iq, hiq with
          | 0, _ =>
          obtain rfl := Option.some.inj hoq
          intro a1 w1 K hk hK
          have e4 : a1.tmps.getD 4 undef = .func (.func 119) #[] #[] := hk.same 4 (by simp)
          simp [Region.wanted, Oper.wp, Act.eval, go_sem, e4, k0, k1, q0, q1, hh1, hh2, ha1, ha2, hgl, hent, hdw, hdw2]
          exact hK _ _ (Below.refl _ _) rfl
          | 1, _ =>
          obtain rfl := Option.some.inj hoq
          intro a1 w1 K hk hK
          have e0 : a1.tmps.getD 0 undef = .slice (some ⟨g, 0, none⟩) m c := hk.same 0 (by simp)
          simp [Region.wanted, Oper.wp, Act.eval, go_sem, e0, k0, k1, q0, q1, hh1, hh2, ha1, ha2, hgl, hent, hdw, hdw2]
          exact hK _ _ (Below.refl _ _) rfl
          | 2, _ =>
          obtain rfl := Option.some.inj hoq
          intro a1 w1 K hk hK
          have e22 : a1.tmps.getD 22 undef = .int .i64 (p : Nat) := hk.same 22 (by simp)
          simp [Region.wanted, Oper.wp, Act.eval, go_sem, e22, k0, k1, q0, q1, hh1, hh2, ha1, ha2, hgl, hent, hdw, hdw2]
          exact hK _ _ (Below.refl _ _) rfl
          | 3, _ =>
          obtain rfl := Option.some.inj hoq
          intro a1 w1 K hk hK
          have e23 : a1.tmps.getD 23 undef = .int .i64 (c9 : Nat) := hk.same 23 (by simp)
          simp [Region.wanted, Oper.wp, Act.eval, go_sem, e23, k0, k1, q0, q1, hh1, hh2, ha1, ha2, hgl, hent, hdw, hdw2]
          exact hK _ _ (Below.refl _ _) rfl
          | 4, _ =>
          obtain rfl := Option.some.inj hoq
          intro a1 w1 K hk hK
          have d160 : a1.tmps.getD 160 undef = .int .i64 (p : Nat) := hk.deps ⟨2, .data⟩ (by simp) rfl _ _ rfl rfl
          have d161 : a1.tmps.getD 161 undef = .int .i64 (c9 : Nat) := hk.deps ⟨3, .data⟩ (by simp) rfl _ _ rfl rfl
          simp [Region.wanted, Oper.wp, Act.eval, go_sem, d160, d161, k0, k1, q0, q1, hh1, hh2, ha1, ha2, hgl, hent, hdw, hdw2]
          exact hK _ _ (Below.refl _ _) rfl
          | 5, _ =>
          obtain rfl := Option.some.inj hoq
          intro a1 w1 K hk hK
          have d159 : a1.tmps.getD 159 undef = .slice (some ⟨g, 0, none⟩) m c := hk.deps ⟨1, .data⟩ (by simp) rfl _ _ rfl rfl
          have d162 : a1.tmps.getD 162 undef = .int .i64 (d : Nat) := hk.deps ⟨4, .data⟩ (by simp) rfl _ _ rfl rfl
          simp [Region.wanted, Oper.wp, Act.eval, go_sem, d159, d162, k0, k1, q0, q1, hh1, hh2, ha1, ha2, hgl, hent, hdw, hdw2]
          exact hK _ _ (Below.refl _ _) rfl
          | 6, _ =>
          obtain rfl := Option.some.inj hoq
          intro a1 w1 K hk hK
          have d163 : a1.tmps.getD 163 undef = .pointer (some ⟨g, d * 2, none⟩) := hk.deps ⟨5, .data⟩ (by simp) rfl _ _ rfl rfl
          have c0 : w1.cell? ⟨g, d * 2, none⟩ = some (.slice Ay py.length cy) := Below.keeps hk.ext _ _ (by simp [go_sem, k0, k1, q0, q1, hh1, hh2, ha1, ha2, hgl, hent, hdw, hdw2])
          have c1 : w1.cell? ⟨g, d * 2 + 1, none⟩ = some (.int .u64 (vy : Nat)) := Below.keeps hk.ext _ _ (by simp [go_sem, k0, k1, q0, q1, hh1, hh2, ha1, ha2, hgl, hent, hdw, hdw2])
          have c2 : w1.cell? ⟨g, c9 * 2, none⟩ = some (.slice Ax px.length cx) := Below.keeps hk.ext _ _ (by simp [go_sem, k0, k1, q0, q1, hh1, hh2, ha1, ha2, hgl, hent, hdw, hdw2])
          have c3 : w1.cell? ⟨g, c9 * 2 + 1, none⟩ = some (.int .u64 (vx : Nat)) := Below.keeps hk.ext _ _ (by simp [go_sem, k0, k1, q0, q1, hh1, hh2, ha1, ha2, hgl, hent, hdw, hdw2])
          simp [Region.wanted, Oper.wp, Act.eval, go_sem, d163, c0, c1, c2, c3, k0, k1, q0, q1, hh1, hh2, ha1, ha2, hgl, hent, hdw, hdw2]
          exact hK _ _ (Below.refl _ _) rfl
          | 7, _ =>
          obtain rfl := Option.some.inj hoq
          intro a1 w1 K hk hK
          have e0 : a1.tmps.getD 0 undef = .slice (some ⟨g, 0, none⟩) m c := hk.same 0 (by simp)
          simp [Region.wanted, Oper.wp, Act.eval, go_sem, e0, k0, k1, q0, q1, hh1, hh2, ha1, ha2, hgl, hent, hdw, hdw2]
          exact hK _ _ (Below.refl _ _) rfl
          | 8, _ =>
          obtain rfl := Option.some.inj hoq
          intro a1 w1 K hk hK
          have e23 : a1.tmps.getD 23 undef = .int .i64 (c9 : Nat) := hk.same 23 (by simp)
          simp [Region.wanted, Oper.wp, Act.eval, go_sem, e23, k0, k1, q0, q1, hh1, hh2, ha1, ha2, hgl, hent, hdw, hdw2]
          exact hK _ _ (Below.refl _ _) rfl
          | 9, _ =>
          obtain rfl := Option.some.inj hoq
          intro a1 w1 K hk hK
          have d165 : a1.tmps.getD 165 undef = .slice (some ⟨g, 0, none⟩) m c := hk.deps ⟨7, .data⟩ (by simp) rfl _ _ rfl rfl
          have d166 : a1.tmps.getD 166 undef = .int .i64 (c9 : Nat) := hk.deps ⟨8, .data⟩ (by simp) rfl _ _ rfl rfl
          simp [Region.wanted, Oper.wp, Act.eval, go_sem, d165, d166, k0, k1, q0, q1, hh1, hh2, ha1, ha2, hgl, hent, hdw, hdw2]
          exact hK _ _ (Below.refl _ _) rfl
          | 10, _ =>
          obtain rfl := Option.some.inj hoq
          intro a1 w1 K hk hK
          have d167 : a1.tmps.getD 167 undef = .pointer (some ⟨g, c9 * 2, none⟩) := hk.deps ⟨9, .data⟩ (by simp) rfl _ _ rfl rfl
          have c0 : w1.cell? ⟨g, d * 2, none⟩ = some (.slice Ay py.length cy) := Below.keeps hk.ext _ _ (by simp [go_sem, k0, k1, q0, q1, hh1, hh2, ha1, ha2, hgl, hent, hdw, hdw2])
          have c1 : w1.cell? ⟨g, d * 2 + 1, none⟩ = some (.int .u64 (vy : Nat)) := Below.keeps hk.ext _ _ (by simp [go_sem, k0, k1, q0, q1, hh1, hh2, ha1, ha2, hgl, hent, hdw, hdw2])
          have c2 : w1.cell? ⟨g, c9 * 2, none⟩ = some (.slice Ax px.length cx) := Below.keeps hk.ext _ _ (by simp [go_sem, k0, k1, q0, q1, hh1, hh2, ha1, ha2, hgl, hent, hdw, hdw2])
          have c3 : w1.cell? ⟨g, c9 * 2 + 1, none⟩ = some (.int .u64 (vx : Nat)) := Below.keeps hk.ext _ _ (by simp [go_sem, k0, k1, q0, q1, hh1, hh2, ha1, ha2, hgl, hent, hdw, hdw2])
          simp [Region.wanted, Oper.wp, Act.eval, go_sem, d167, c0, c1, c2, c3, k0, k1, q0, q1, hh1, hh2, ha1, ha2, hgl, hent, hdw, hdw2]
          exact hK _ _ (Below.refl _ _) rfl
          | 11, _ =>
          obtain rfl := Option.some.inj hoq
          intro a1 w1 K hk hK
          have d158 : a1.tmps.getD 158 undef = .func (.func 119) #[] #[] := hk.deps ⟨0, .data⟩ (by simp) rfl _ _ rfl rfl
          have d164 : a1.tmps.getD 164 undef = .agg #[.slice Ay py.length cy, .int .u64 (vy : Nat)] := hk.deps ⟨6, .data⟩ (by simp) rfl _ _ rfl rfl
          have d168 : a1.tmps.getD 168 undef = .agg #[.slice Ax px.length cx, .int .u64 (vx : Nat)] := hk.deps ⟨10, .data⟩ (by simp) rfl _ _ rfl rfl
          simp [Region.wanted, Oper.wp, Act.eval, go_sem, d158, d164, d168, k0, k1, q0, q1, hh1, hh2, ha1, ha2, hgl, hent, hdw, hdw2]
          refine (HOR.out _ (below_trans (by repeat (first | exact Below.refl _ _ | (refine Below.drew ?_) | (refine below_drewN' ?_ _) | (refine below_alloc' ?_ _) | (refine Below.setCell ?_ (by first | exact Nat.le_refl _ | (simp; done) | (simp; omega)) _))) hk.ext)).mono ?_
          rintro e w9 ⟨rfl, hb9⟩
          exact hK _ _ hb9 rfl
        · intro vs w3 hl hb3 hv
          match vs, hl with
          | [v0, v1, v2, v3, v4, v5, v6, v7, v8, v9, v10, v11], _ =>
          obtain rfl : v0 = .func (.func 119) #[] #[] := hv 0 (by omega)
          obtain rfl : v1 = .slice (some ⟨g, 0, none⟩) m c := hv 1 (by omega)
          obtain rfl : v2 = .int .i64 (p : Nat) := hv 2 (by omega)
          obtain rfl : v3 = .int .i64 (c9 : Nat) := hv 3 (by omega)
          obtain rfl : v4 = .int .i64 (d : Nat) := hv 4 (by omega)
          obtain rfl : v5 = .pointer (some ⟨g, d * 2, none⟩) := hv 5 (by omega)
          obtain rfl : v6 = .agg #[.slice Ay py.length cy, .int .u64 (vy : Nat)] := hv 6 (by omega)
          obtain rfl : v7 = .slice (some ⟨g, 0, none⟩) m c := hv 7 (by omega)
          obtain rfl : v8 = .int .i64 (c9 : Nat) := hv 8 (by omega)
          obtain rfl : v9 = .pointer (some ⟨g, c9 * 2, none⟩) := hv 9 (by omega)
          obtain rfl : v10 = .agg #[.slice Ax px.length cx, .int .u64 (vx : Nat)] := hv 10 (by omega)
          obtain rfl : v11 = .int .i64 z := hv 11 (by omega)
          clear hv
          simp only [putAll, List.take_succ_cons, List.take_zero, List.drop_succ_cons, List.drop_zero, Act.put, List.setIfInBounds_toArray, List.set_cons_succ, List.set_cons_zero]
          have HP3 := Lib.hid (HI.out.2.step (show Below wr.heap.size wr w3 from hb3))
          clear hb3 hth k0 k1 q0 q1 hgl hdw hdw2
          by_cases hz0 : z < 0
          · have HL := Lib.hid (HDN.out (HZ.out.1 hz0))
            go_wp2_with fail
            go_roundw
            case rel => exact ⟨st, c9, rfl, rfl, HL.out, HP3.out⟩
            case measure => rw [intOf_nat, intOf_nat, intOf_nat]; exact HN.out.2
          · have HL := Lib.hid (HUP.out (fun h => hz0 (HZ.out.2 h)))
            go_wp2_with fail
            go_roundw
            case rel => exact ⟨c9 + 1, r, by rw [HW2.out], rfl, HL.out, HP3.out⟩
            case measure => rw [intOf_nat, intOf_of' HW2.out, intOf_nat]; exact HN.out.1
      · have hl2 := hI.l2
        obtain rfl : st = r := by omega
        have hcut := hI.cut HCB.out HK.out.2.2.2.1 HK.out.2.2.2.2 HD.out.2.1 HD.out.2.2.1
        obtain ⟨A1, hA1⟩ : ∃ l, A.take (st - a) = l := ⟨_, rfl⟩
        obtain ⟨A2, hA2⟩ : ∃ l, A.drop (st - a) = l := ⟨_, rfl⟩
        obtain ⟨B1, hB1⟩ : ∃ l, B.take (mid - st) = l := ⟨_, rfl⟩
        obtain ⟨B2, hB2⟩ : ∃ l, B.drop (mid - st) = l := ⟨_, rfl⟩
        rw [hA1, hA2, hB1, hB2] at hcut
        clear hA1 hA2 hB1 hB2
        have HCUT := Lib.hid hcut
        obtain ⟨cea, ceb, cl1, cl2, cl3, cl4, clt, cle⟩ := hcut
        obtain ⟨d1, d2, d3, d4, d5⟩ := HD.out
        have hNm := HNE.out
        have hcb := HCB.out
        obtain ⟨en, hst⟩ : ∃ en, st + en = N := ⟨N - st, by have := hcb.hd; have := hI.l3; omega⟩
        have HEN := Lib.hid (show wrap64 ((N : Int) - (st : Int)) = (en : Int) from wrap_sub (by omega) (by omega))
        have sA := HK.out.2.2.2.1
        have sB := HK.out.2.2.2.2
        rw [cea] at sA
        rw [ceb] at sB
        obtain ⟨sA1, sA2, sA12⟩ := List.pairwise_append.1 sA
        obtain ⟨sB1, sB2, sB12⟩ := List.pairwise_append.1 sB
        have hcbl : a < mm ∧ mm < b ∧ mid = (a + b) / 2 := ⟨hcb.am, hcb.mb, hcb.md⟩
        obtain ⟨q1, q2, q3⟩ := hcbl
        have hAl := congrArg List.length cea
        have hBl := congrArg List.length ceb
        rw [List.length_append] at hAl hBl
        have HQ0 := Lib.hid (show PR W0 wr g n (X ++ (A1 ++ (A2 ++ (B1 ++ (B2 ++ Y))))) from by have := hpr; rw [cea, ceb] at this; simpa using this)
        have hk1 : ∀ x' ∈ X ++ (A1 ++ (B1 ++ (A2 ++ (B2 ++ Y)))), x'.2.p.length = k ∧ ∀ q ∈ x'.2.p, q < 2 ^ 64 := fun x' hx => HK.out.1 x' (by rw [cea, ceb]; simp only [List.mem_append] at hx ⊢; rcases hx with h | h | h | h | h | h <;> simp [h])
        have HROT := Lib.hid (show ¬ A2.length = 0 → ¬ B1.length = 0 → ∀ w', PR W0 w' g n (X ++ (A1 ++ (A2 ++ (B1 ++ (B2 ++ Y))))) → Calls Tryz.prog 184 #[.slice (some ⟨g, 0, none⟩) m c, .int .i64 (st : Nat), .int .i64 (mm : Nat), .int .i64 (en : Nat), .func (.func 119) #[] #[]] w' fun e w'' => RotR W0 g n (X ++ (A1 ++ (B1 ++ (A2 ++ (B2 ++ Y))))) e w'' from fun z2 z3 w' hp => by
          have := rot_any W0 w' g n st mm en m c (X ++ A1) A2 B1 (B2 ++ Y) (by simp; omega) (by omega) (by omega) (by simp; omega) d5 (fun h => z2 (by rw [h]; rfl)) (fun h => z3 (by rw [h]; rfl)) (by simpa using hp)
          simpa using this)
        have HNR := Lib.hid (show (A2.length = 0 ∨ B1.length = 0) → ∀ w', PR W0 w' g n (X ++ (A1 ++ (A2 ++ (B1 ++ (B2 ++ Y))))) → PR W0 w' g n (X ++ (A1 ++ (B1 ++ (A2 ++ (B2 ++ Y))))) from fun h w' hp => by
          rcases h with h | h
          · rw [List.length_eq_zero_iff] at h; subst h; simpa using hp
          · rw [List.length_eq_zero_iff] at h; subst h; simpa using hp)
        have HL := Lib.hid (show ¬ A1.length = 0 → ¬ B1.length = 0 → ∀ w', PR W0 w' g n (X ++ (A1 ++ (B1 ++ (A2 ++ (B2 ++ Y))))) → Calls Tryz.prog 179 #[.slice (some ⟨g, 0, none⟩) m c, .int .i64 (a : Nat), .int .i64 (st : Nat), .int .i64 (mid : Nat), .func (.func 119) #[] #[]] w' fun e w'' => MrgR W0 g n X (A1 ++ B1) (A2 ++ (B2 ++ Y)) e w'' from fun z1 z3 w' hp =>
          HIH.out w' a st mid X A1 B1 (A2 ++ (B2 ++ Y)) (by omega) d1 cl1 cl3 (by simp; omega) (fun h => z1 (by rw [h]; rfl)) (fun h => z3 (by rw [h]; rfl)) hp hk1 sA1 sB1)
        have HNL := Lib.hid (show (A1.length = 0 ∨ B1.length = 0) → ∀ w', PR W0 w' g n (X ++ (A1 ++ (B1 ++ (A2 ++ (B2 ++ Y))))) → Half W0 w' g n X (A1 ++ B1) (A1 ++ B1) (A2 ++ (B2 ++ Y)) from fun h w' hp => ⟨by simpa using hp, rfl, Stb.refl _, by
          rcases h with h | h
          · rw [List.length_eq_zero_iff] at h; subst h; rw [List.nil_append]; exact sB1
          · rw [List.length_eq_zero_iff] at h; subst h; rw [List.append_nil]; exact sA1⟩)
        have HR := Lib.hid (show ¬ A2.length = 0 → ¬ B2.length = 0 → ∀ (w' : World) (M1 : List Pe), Half W0 w' g n X (A1 ++ B1) M1 (A2 ++ (B2 ++ Y)) → Calls Tryz.prog 179 #[.slice (some ⟨g, 0, none⟩) m c, .int .i64 (mid : Nat), .int .i64 (en : Nat), .int .i64 (b : Nat), .func (.func 119) #[] #[]] w' fun e w'' => MrgR W0 g n (X ++ M1) (A2 ++ B2) Y e w'' from fun z2 z4 w' M1 ⟨hp, hl, hs, ho⟩ => by
          rw [List.length_append] at hl
          exact HIH.out w' mid en b (X ++ M1) A2 B2 Y (by omega) (by simp; omega) (by omega) (by omega) d4 (fun h => z2 (by rw [h]; rfl)) (fun h => z4 (by rw [h]; rfl)) (by simpa using hp) (fun x' hx => hk1 x' (by
            have hm := hs.mem (x := x')
            simp only [List.mem_append] at hx hm ⊢
            rcases hx with (h | h) | h | h | h
            · exact .inl h
            · rcases hm.2 h with h | h
              · exact .inr (.inl h)
              · exact .inr (.inr (.inl h))
            · exact .inr (.inr (.inr (.inl h)))
            · exact .inr (.inr (.inr (.inr (.inl h))))
            · exact .inr (.inr (.inr (.inr (.inr h)))))) sA2 sB2)
        have HNR2 := Lib.hid (show (A2.length = 0 ∨ B2.length = 0) → ∀ (w' : World) (M1 : List Pe), Half W0 w' g n X (A1 ++ B1) M1 (A2 ++ (B2 ++ Y)) → Half W0 w' g n (X ++ M1) (A2 ++ B2) (A2 ++ B2) Y from fun h w' M1 ⟨hp, _, _, _⟩ => ⟨by simpa using hp, rfl, Stb.refl _, by
          rcases h with h | h
          · rw [List.length_eq_zero_iff] at h; subst h; rw [List.nil_append]; exact sB2
          · rw [List.length_eq_zero_iff] at h; subst h; rw [List.append_nil]; exact sA2⟩)
        have HFIN := Lib.hid (show ∀ (w' : World) (M1 M2 : List Pe), (∃ w0, Half W0 w0 g n X (A1 ++ B1) M1 (A2 ++ (B2 ++ Y))) → Half W0 w' g n (X ++ M1) (A2 ++ B2) M2 Y → MrgR W0 g n X (A ++ B) Y (.returned (.tuple #[])) w' from fun w' M1 M2 ⟨w0, _, l1, s1, o1⟩ ⟨hp, l2, s2, o2⟩ => by
          refine ⟨M1 ++ M2, rfl, by simpa using hp, by rw [cea, ceb]; simp only [List.length_append] at l1 l2 ⊢; omega, ?_, ?_⟩
          · rw [cea, ceb]
            have e1 : Stb (A2 ++ B1) (B1 ++ A2) := Stb.swap fun u hu v hv => by have := clt v hv u hu; omega
            have e2 := ((Stb.refl A1).append (e1.append (Stb.refl B2))).trans (by have := s1.append s2; simpa using this)
            simpa using e2
          · refine List.pairwise_append.2 ⟨o1, o2, fun u hu v hv => ?_⟩
            have hu := s1.mem.2 hu
            have hv := s2.mem.2 hv
            rcases List.mem_append.1 hu with hu | hu <;> rcases List.mem_append.1 hv with hv | hv
            · exact sA12 u hu v hv
            · exact cle u hu v hv
            · exact Nat.le_of_lt (clt u hu v hv)
            · exact sB12 u hu v hv)
        have hstr : ¬ (st : Int) < (st : Int) := by omega
        clear hI hpr cea ceb clt cle hcb sA sB sA1 sA2 sA12 sB1 sB2 sB12 hk1
        by_cases z2 : A2.length = 0
        · by_cases z3 : B1.length = 0
          · first
              | (exfalso; omega)
              | skip
                have HC1 := Lib.hid (HNR.out (by omega))
                have HC2 := Lib.hid (HNL.out (by omega))
                have HC3 := Lib.hid (HNR2.out (by omega))
                have g1 : ¬ ((st : Int) < (mm : Int)) := by omega
                have g3 : ((a : Int) < (st : Int)) := by omega
                have g4 : ¬ ((st : Int) < (mid : Int)) := by omega
                have g5 : ¬ ((mid : Int) < (en : Int)) := by omega
                clear z2 z3 q1 q2 q3 hAl hBl hl2 hlt cl1 cl2 cl3 cl4 hst hNm d1 d2 d3 d4 d5
                have hen := HEN.out
                go_wp2_with fail
                clear hen
                have HP1 := Lib.hid (HC1.out _ HQ0.out)
                have HP2 := Lib.hid (HC2.out _ HP1.out)
                have HP3 := Lib.hid (HC3.out _ _ HP2.out)
                go_end0
                exact HFIN.out _ _ _ ⟨_, HP2.out⟩ HP3.out
          · first
              | (exfalso; omega)
              | skip
                have HC1 := Lib.hid (HNR.out (by omega))
                have HC2 := Lib.hid (HL.out (by omega) (by omega))
                have HC3 := Lib.hid (HNR2.out (by omega))
                have g1 : ¬ ((st : Int) < (mm : Int)) := by omega
                have g3 : ((a : Int) < (st : Int)) := by omega
                have g4 : ((st : Int) < (mid : Int)) := by omega
                have g5 : ¬ ((mid : Int) < (en : Int)) := by omega
                clear z2 z3 q1 q2 q3 hAl hBl hl2 hlt cl1 cl2 cl3 cl4 hst hNm d1 d2 d3 d4 d5
                have hen := HEN.out
                go_wp2_with fail
                clear hen
                have HP1 := Lib.hid (HC1.out _ HQ0.out)
                refine (HC2.out _ HP1.out).mono ?_
                rintro e w3 ⟨M1, rfl, hp, hl, hs, ho⟩
                have HP2 := Lib.hid (show Half W0 w3 g n X (A1 ++ B1) M1 (A2 ++ (B2 ++ Y)) from ⟨hp, hl, hs, ho⟩)
                clear hp hl hs ho
                have hen := HEN.out
                go_wp2_with fail
                clear hen
                have HP3 := Lib.hid (HC3.out _ _ HP2.out)
                go_end0
                exact HFIN.out _ _ _ ⟨_, HP2.out⟩ HP3.out
        · by_cases z3 : B1.length = 0
          · first
              | (exfalso; omega)
              | skip
                have HC1 := Lib.hid (HNR.out (by omega))
                have HC2 := Lib.hid (HNL.out (by omega))
                have HC3 := Lib.hid (HR.out (by omega) (by omega))
                have g1 : ((st : Int) < (mm : Int)) := by omega
                have g2 : ¬ ((mm : Int) < (en : Int)) := by omega
                have g3 : ((a : Int) < (st : Int)) := by omega
                have g4 : ¬ ((st : Int) < (mid : Int)) := by omega
                have g5 : ((mid : Int) < (en : Int)) := by omega
                have g6 : ((en : Int) < (b : Int)) := by omega
                clear z2 z3 q1 q2 q3 hAl hBl hl2 hlt cl1 cl2 cl3 cl4 hst hNm d1 d2 d3 d4 d5
                have hen := HEN.out
                go_wp2_with fail
                clear hen
                have HP1 := Lib.hid (HC1.out _ HQ0.out)
                have HP2 := Lib.hid (HC2.out _ HP1.out)
                (try rw [HEN.out])
                refine (HC3.out _ _ HP2.out).mono ?_
                rintro e w4 ⟨M2, rfl, hp, hl, hs, ho⟩
                have HP3 := Lib.hid (show Half W0 w4 g n _ (A2 ++ B2) M2 Y from ⟨hp, hl, hs, ho⟩)
                clear hp hl hs ho
                go_wp2_with fail
                go_end0
                exact HFIN.out _ _ _ ⟨_, HP2.out⟩ HP3.out
          · by_cases z1 : A1.length = 0
            · by_cases z4 : B2.length = 0
              · have HC1 := Lib.hid (HROT.out (by omega) (by omega))
                have HC2 := Lib.hid (HNL.out (by omega))
                have HC3 := Lib.hid (HNR2.out (by omega))
                have g1 : ((st : Int) < (mm : Int)) := by omega
                have g2 : ((mm : Int) < (en : Int)) := by omega
                have g3 : ¬ ((a : Int) < (st : Int)) := by omega
                have g5 : ((mid : Int) < (en : Int)) := by omega
                have g6 : ¬ ((en : Int) < (b : Int)) := by omega
                clear z2 z3 z1 z4 q1 q2 q3 hAl hBl hl2 hlt cl1 cl2 cl3 cl4 hst hNm d1 d2 d3 d4 d5
                have hen := HEN.out
                go_wp2_with fail
                clear hen
                (try rw [HEN.out])
                refine (HC1.out _ HQ0.out).mono ?_
                rintro e w2 ⟨rfl, hp⟩
                have HP1 := Lib.hid hp
                clear hp
                have hen := HEN.out
                go_wp2_with fail
                clear hen
                have HP2 := Lib.hid (HC2.out _ HP1.out)
                have HP3 := Lib.hid (HC3.out _ _ HP2.out)
                go_end0
                exact HFIN.out _ _ _ ⟨_, HP2.out⟩ HP3.out
              · have HC1 := Lib.hid (HROT.out (by omega) (by omega))
                have HC2 := Lib.hid (HNL.out (by omega))
                have HC3 := Lib.hid (HR.out (by omega) (by omega))
                have g1 : ((st : Int) < (mm : Int)) := by omega
                have g2 : ((mm : Int) < (en : Int)) := by omega
                have g3 : ¬ ((a : Int) < (st : Int)) := by omega
                have g5 : ((mid : Int) < (en : Int)) := by omega
                have g6 : ((en : Int) < (b : Int)) := by omega
                clear z2 z3 z1 z4 q1 q2 q3 hAl hBl hl2 hlt cl1 cl2 cl3 cl4 hst hNm d1 d2 d3 d4 d5
                have hen := HEN.out
                go_wp2_with fail
                clear hen
                (try rw [HEN.out])
                refine (HC1.out _ HQ0.out).mono ?_
                rintro e w2 ⟨rfl, hp⟩
                have HP1 := Lib.hid hp
                clear hp
                have hen := HEN.out
                go_wp2_with fail
                clear hen
                have HP2 := Lib.hid (HC2.out _ HP1.out)
                (try rw [HEN.out])
                refine (HC3.out _ _ HP2.out).mono ?_
                rintro e w4 ⟨M2, rfl, hp, hl, hs, ho⟩
                have HP3 := Lib.hid (show Half W0 w4 g n _ (A2 ++ B2) M2 Y from ⟨hp, hl, hs, ho⟩)
                clear hp hl hs ho
                go_wp2_with fail
                go_end0
                exact HFIN.out _ _ _ ⟨_, HP2.out⟩ HP3.out
            · by_cases z4 : B2.length = 0
              · have HC1 := Lib.hid (HROT.out (by omega) (by omega))
                have HC2 := Lib.hid (HL.out (by omega) (by omega))
                have HC3 := Lib.hid (HNR2.out (by omega))
                have g1 : ((st : Int) < (mm : Int)) := by omega
                have g2 : ((mm : Int) < (en : Int)) := by omega
                have g3 : ((a : Int) < (st : Int)) := by omega
                have g4 : ((st : Int) < (mid : Int)) := by omega
                have g5 : ((mid : Int) < (en : Int)) := by omega
                have g6 : ¬ ((en : Int) < (b : Int)) := by omega
                clear z2 z3 z1 z4 q1 q2 q3 hAl hBl hl2 hlt cl1 cl2 cl3 cl4 hst hNm d1 d2 d3 d4 d5
                have hen := HEN.out
                go_wp2_with fail
                clear hen
                (try rw [HEN.out])
                refine (HC1.out _ HQ0.out).mono ?_
                rintro e w2 ⟨rfl, hp⟩
                have HP1 := Lib.hid hp
                clear hp
                have hen := HEN.out
                go_wp2_with fail
                clear hen
                refine (HC2.out _ HP1.out).mono ?_
                rintro e w3 ⟨M1, rfl, hp, hl, hs, ho⟩
                have HP2 := Lib.hid (show Half W0 w3 g n X (A1 ++ B1) M1 (A2 ++ (B2 ++ Y)) from ⟨hp, hl, hs, ho⟩)
                clear hp hl hs ho
                have hen := HEN.out
                go_wp2_with fail
                clear hen
                have HP3 := Lib.hid (HC3.out _ _ HP2.out)
                go_end0
                exact HFIN.out _ _ _ ⟨_, HP2.out⟩ HP3.out
              · have HC1 := Lib.hid (HROT.out (by omega) (by omega))
                have HC2 := Lib.hid (HL.out (by omega) (by omega))
                have HC3 := Lib.hid (HR.out (by omega) (by omega))
                have g1 : ((st : Int) < (mm : Int)) := by omega
                have g2 : ((mm : Int) < (en : Int)) := by omega
                have g3 : ((a : Int) < (st : Int)) := by omega
                have g4 : ((st : Int) < (mid : Int)) := by omega
                have g5 : ((mid : Int) < (en : Int)) := by omega
                have g6 : ((en : Int) < (b : Int)) := by omega
                clear z2 z3 z1 z4 q1 q2 q3 hAl hBl hl2 hlt cl1 cl2 cl3 cl4 hst hNm d1 d2 d3 d4 d5
                have hen := HEN.out
                go_wp2_with fail
                clear hen
                (try rw [HEN.out])
                refine (HC1.out _ HQ0.out).mono ?_
                rintro e w2 ⟨rfl, hp⟩
                have HP1 := Lib.hid hp
                clear hp
                have hen := HEN.out
                go_wp2_with fail
                clear hen
                refine (HC2.out _ HP1.out).mono ?_
                rintro e w3 ⟨M1, rfl, hp, hl, hs, ho⟩
                have HP2 := Lib.hid (show Half W0 w3 g n X (A1 ++ B1) M1 (A2 ++ (B2 ++ Y)) from ⟨hp, hl, hs, ho⟩)
                clear hp hl hs ho
                have hen := HEN.out
                go_wp2_with fail
                clear hen
                (try rw [HEN.out])
                refine (HC3.out _ _ HP2.out).mono ?_
                rintro e w4 ⟨M2, rfl, hp, hl, hs, ho⟩
                have HP3 := Lib.hid (show Half W0 w4 g n _ (A2 ++ B2) M2 Y from ⟨hp, hl, hs, ho⟩)
                clear hp hl hs ho
                go_wp2_with fail
                go_end0
                exact HFIN.out _ _ _ ⟨_, HP2.out⟩ HP3.out
end Go.Proofs.YtjokcagggmjgmaaGreat
/-! SrtK -/
namespace Go.Proofs.YtjokcagggmjgmaaGreat
open Go.RowKit
set_option linter.unusedVariables false
set_option linter.unusedSimpArgs false
set_option maxRecDepth 100000

theorem sym_any (W0 : World) (g n m c k : Nat) (k1 : 1 ≤ k) (k16 : k ≤ 16) (hmx : m ≤ 1000) : ∀ (N : Nat) (w : World) (a mm b : Nat) (X A B Y : List Pe), A.length + B.length ≤ N → X.length = a → a + A.length = mm → mm + B.length = b → b + Y.length = m → A ≠ [] → B ≠ [] → PR W0 w g n (X ++ (A ++ (B ++ Y))) →
    (∀ x' ∈ X ++ (A ++ (B ++ Y)), x'.2.p.length = k ∧ ∀ q ∈ x'.2.p, q < 2 ^ 64) → Srt A → Srt B →
    Calls Tryz.prog 179 #[.slice (some ⟨g, 0, none⟩) m c, .int .i64 (a : Nat), .int .i64 (mm : Nat), .int .i64 (b : Nat), .func (.func 119) #[] #[]] w fun e w' => MrgR W0 g n X (A ++ B) Y e w' := by
  intro N
  induction N with
  | zero =>
    intro w a mm b X A B Y hN _ _ _ _ hA
    exact absurd (List.length_eq_zero_iff.1 (by omega)) hA
  | succ N ih =>
    intro w a mm b X A B Y hN ha hmm hb hm hA hB h hk sA sB
    cases A with
    | nil => exact absurd rfl hA
    | cons x A' =>
      cases A' with
      | nil => exact sym_left W0 w g n a mm b m c k X B Y x ha (by simpa using hmm) hb hm hmx k1 k16 h hk sB
      | cons x2 A2 =>
        cases B with
        | nil => exact absurd rfl hB
        | cons y B' =>
          cases B' with
          | nil => exact sym_right W0 w g n a mm b m c k X (x :: x2 :: A2) Y y ha hmm (by simpa using hb) hm hmx (by simp) k1 k16 h hk sA
          | cons y2 B2 =>
            exact sym_gen W0 w g n a mm b m c k X (x :: x2 :: A2) (y :: y2 :: B2) Y ha hmm hb hm hmx (by simp) (by simp) k1 k16 h hk sA sB
              fun w' a' mm' b' X' A' B' Y' hlt h1 h2 h3 h4 h5 h6 h7 h8 h9 h10 => ih w' a' mm' b' X' A' B' Y' (by omega) h1 h2 h3 h4 h5 h6 h7 h8 h9 h10
theorem isort_empty (w : World) (a m c : Nat) (A : Option Addr) (hm : a ≤ 1000) :
    Calls Tryz.prog 178 #[.slice A m c, .int .i64 (a : Nat), .int .i64 (a : Nat), .func (.func 119) #[] #[]] w fun e w' => e = .returned (.tuple #[]) ∧ w' = w := by
  have HW := Lib.hid (show wrap64 ((a : Int) + 1) = ((a + 1 : Nat) : Int) from wrap_succ (by omega))
  obtain ⟨b, hb⟩ : ∃ b, a + 1 = b := ⟨_, rfl⟩
  rw [hb] at HW
  have hlt : ¬ (b : Int) < (a : Int) := by omega
  clear hb hm
  go_enter Tryz.func178, Tryz.ntmps178
  go_wp2_with fail
  go_loopw [8, 9] (fun iv _ wr => iv = .int .i64 (b : Nat) ∧ wr = w) (fun _ _ _ => 0)
  case atStart => exact ⟨by rw [HW.out], rfl⟩
  case round =>
    obtain ⟨rfl, hw⟩ := hrel
    subst hw
    go_wp2_with fail
    go_end0
    exact ⟨rfl, rfl⟩
/-- blocks of bs each in order, and a rest -/
structure Blk (W0 w : World) (g n m bs : Nat) (xs : List Pe) (Ms Ls : List (List Pe)) (R : List Pe) : Prop where
  pr : PR W0 w g n (Ms.flatten ++ (Ls.flatten ++ R))
  stb : Stb xs (Ms.flatten ++ (Ls.flatten ++ R))
  len : Ms.flatten.length + (Ls.flatten.length + R.length) = m
  lm : ∀ L ∈ Ms, L.length = 2 * bs ∧ Srt L
  ll : ∀ L ∈ Ls, L.length = bs ∧ Srt L
  rl : R.length < bs
  rs : Srt R
theorem Stb.hk {k : Nat} {xs ys : List Pe} (h : Stb xs ys) (hk : ∀ x ∈ xs, x.2.p.length = k ∧ ∀ q ∈ x.2.p, q < 2 ^ 64) : ∀ x ∈ ys, x.2.p.length = k ∧ ∀ q ∈ x.2.p, q < 2 ^ 64 := fun x hx => hk x (h.mem.2 hx)
theorem flatten_snoc {α : Type} (Ls : List (List α)) (L : List α) : (Ls ++ [L]).flatten = Ls.flatten ++ L := by simp
set_option maxHeartbeats 8000000 in
theorem stc_any (W0 w : World) (g n c k : Nat) (xs : List Pe) (hl : xs.length ≤ 1000) (k1 : 1 ≤ k) (k16 : k ≤ 16) (h : PR W0 w g n xs) (hk : ∀ x ∈ xs, x.2.p.length = k ∧ ∀ q ∈ x.2.p, q < 2 ^ 64) :
    Calls Tryz.prog 163 #[.slice (some ⟨g, 0, none⟩) xs.length c, .int .i64 (xs.length : Nat), .func (.func 119) #[] #[]] w fun e w' => SortR W0 g n xs e w' := by
  have HP0 := Lib.hid h
  obtain ⟨m, hm⟩ : ∃ m, xs.length = m := ⟨_, rfl⟩
  rw [hm]
  have HD := Lib.hid (And.intro hm (show m ≤ 1000 by omega))
  have HK := Lib.hid (And.intro hk (And.intro k1 k16))
  clear hl k1 k16 h hk hm
  go_enter Tryz.func163, Tryz.ntmps163
  go_wp2_with fail
  go_loopw [7, 8] (fun av bv wr => ∃ (Ls : List (List Pe)) (R : List Pe) (a : Nat), av = .int .i64 (a : Nat) ∧ bv = .int .i64 ((a + 20 : Nat) : Int) ∧ Ls.flatten.length = a ∧ a + R.length = m ∧ PR W0 wr g n (Ls.flatten ++ R) ∧ Stb xs (Ls.flatten ++ R) ∧ (∀ L ∈ Ls, L.length = 20 ∧ Srt L)) (fun _ bv _ => m + 20 - (intOf bv).toNat)
  case atStart => exact ⟨[], xs, 0, rfl, rfl, rfl, by have := HD.out.1; simpa using this, HP0.out, Stb.refl _, by simp⟩
  case round =>
    obtain ⟨Ls, R, a, rfl, rfl, hla, har, hpr, hstb, hll⟩ := hrel
    have HI := Lib.hid (And.intro hla (And.intro har (And.intro hpr (And.intro hstb hll))))
    obtain ⟨b, hb⟩ : ∃ b, a + 20 = b := ⟨_, rfl⟩
    rw [hb]
    have hm1 := HD.out.2
    by_cases hle : b ≤ m
    · have hle2 : (b : Int) ≤ (m : Int) := by omega
      have hR20 : (R.take 20).length = 20 := by rw [List.length_take]; omega
      have eR : R = R.take 20 ++ R.drop 20 := (List.take_append_drop _ _).symm
      obtain ⟨S, hS⟩ : ∃ S, R.take 20 = S := ⟨_, rfl⟩
      obtain ⟨Q, hQ⟩ : ∃ Q, R.drop 20 = Q := ⟨_, rfl⟩
      rw [hS] at hR20 eR
      rw [hQ] at eR
      subst eR
      have hne : S ≠ [] := fun h => by rw [h] at hR20; simp at hR20
      have HINS := Lib.hid (isort_any W0 wr g n a b m c k Ls.flatten S Q hla (by omega) (by rw [List.length_append, hla]; exact har) hm1 HK.out.2.1 HK.out.2.2 hpr (hstb.hk HK.out.1) hne)
      have HW := Lib.hid (show wrap64 ((b : Int) + 20) = ((b + 20 : Nat) : Int) from by have := wrap_add (a := b) (i := 20) rfl (by omega); exact this)
      have hbq : b + Q.length = m := by rw [List.length_append] at har; omega
      have HN := Lib.hid (And.intro hb (And.intro hbq (And.intro hR20 hle)))
      clear hla har hpr hstb hll hb hm1 hle hR20 hS hQ hne hbq
      go_wp2_with fail
      refine HINS.out.mono ?_
      rintro e w2 ⟨S', rfl, hp, hl2, hs, hsrt⟩
      have HF := Lib.hid (And.intro hp (And.intro hl2 (And.intro hs hsrt)))
      clear hp hl2 hs hsrt
      go_wp2_with fail
      go_roundw
      case rel =>
        obtain ⟨i1, i2, i3, i4, i5⟩ := HI.out
        obtain ⟨f1, f2, f3, f4⟩ := HF.out
        obtain ⟨n1, n2, n3, n4⟩ := HN.out
        refine ⟨Ls ++ [S'], Q, b, rfl, HW.out ▸ rfl, by rw [flatten_snoc, List.length_append]; omega, n2, by rw [flatten_snoc, List.append_assoc]; exact f1, ?_, fun L hL => ?_⟩
        · rw [flatten_snoc, List.append_assoc]
          exact i4.trans ((Stb.refl _).append (f3.append (Stb.refl _)))
        · rcases List.mem_append.1 hL with hL | hL
          · exact i5 L hL
          · obtain rfl := List.mem_singleton.1 hL
            exact ⟨by omega, f4⟩
      case measure =>
        have hle := HN.out.2.2.2
        rw [intOf_of' HW.out, intOf_nat, Int.toNat_natCast, Int.toNat_natCast]
        omega
    · have hle2 : ¬ (b : Int) ≤ (m : Int) := by omega
      have HINS := Lib.hid (show Calls Tryz.prog 178 #[.slice (some ⟨g, 0, none⟩) m c, .int .i64 (a : Nat), .int .i64 (m : Nat), .func (.func 119) #[] #[]] wr fun e w' => InsR W0 g n Ls.flatten R [] e w' from by
        by_cases hne : R = []
        · subst hne
          have e : m = a := by simpa using har.symm
          subst e
          exact (isort_empty wr m m c _ hm1).mono fun e w' ⟨h1, h2⟩ => ⟨[], h1, by rw [h2]; simpa using hpr, rfl, Stb.refl _, List.Pairwise.nil⟩
        · exact isort_any W0 wr g n a m m c k Ls.flatten R [] hla har (by rw [List.append_nil, List.length_append, hla]; exact har) hm1 HK.out.2.1 HK.out.2.2 (by rw [List.append_nil]; exact hpr) (by rw [List.append_nil]; exact hstb.hk HK.out.1) hne)
      have HN := Lib.hid (And.intro hb hle)
      clear hla har hpr hstb hll hb hm1 hle
      go_wp2_with fail
      refine HINS.out.mono ?_
      rintro e w2 ⟨R', rfl, hp, hl2, hs, hsrt⟩
      have HB0 := Lib.hid (show Blk W0 w2 g n m 20 xs [] Ls R' from by
        obtain ⟨i1, i2, i3, i4, i5⟩ := HI.out
        obtain ⟨n1, n2⟩ := HN.out
        refine ⟨by simpa using hp, ?_, by simp only [List.flatten_nil, List.length_nil]; omega, by simp, i5, by omega, hsrt⟩
        simp only [List.flatten_nil, List.nil_append]
        exact i4.trans ((Stb.refl _).append hs))
      clear hp hl2 hs hsrt
      go_wp2_with fail
      go_loopw [6, 7, 8, 9] (fun sv _ _ _ wr => ∃ (bs : Nat) (Ls : List (List Pe)) (R : List Pe), sv = .int .i64 (bs : Nat) ∧ 20 ≤ bs ∧ bs ≤ 2000 ∧ Blk W0 wr g n m bs xs [] Ls R) (fun sv _ _ _ _ => m - (intOf sv).toNat)
      case atStart => exact ⟨20, Ls, R', rfl, by omega, by omega, HB0.out⟩
      case round =>
        obtain ⟨bs, Ls2, R2, rfl, hb20, hb2, hB⟩ := hrel
        have HBK := Lib.hid hB
        have HBS := Lib.hid (And.intro hb20 hb2)
        have hm1 := HD.out.2
        by_cases hlt : bs < m
        · have hlt2 : (bs : Int) < (m : Int) := by omega
          obtain ⟨b2, hbb⟩ : ∃ b2, 2 * bs = b2 := ⟨_, rfl⟩
          have HW2 := Lib.hid (show wrap64 (2 * (bs : Int)) = (b2 : Int) from by unfold wrap64; omega)
          have HW3 := Lib.hid (show wrap64 ((bs : Int) * 2) = (b2 : Int) from by have := HW2.out; rw [Int.mul_comm]; exact this)
          have HBB := Lib.hid hbb
          have HLT := Lib.hid hlt
          have HB00 := Lib.hid hB
          clear hB hb20 hb2 hm1 hlt hbb
          go_wp2_with fail
          (try rw [HW2.out])
          go_loopw [7, 8] (fun av bv wr => ∃ (Ms Ls : List (List Pe)) (R : List Pe) (a b : Nat), av = .int .i64 (a : Nat) ∧ bv = .int .i64 (b : Nat) ∧ a + b2 = b ∧ Ms.flatten.length = a ∧ Blk W0 wr g n m bs xs Ms Ls R) (fun _ bv _ => m + 4000 - (intOf bv).toNat)
          case atStart => exact ⟨[], Ls2, R2, 0, b2, rfl, rfl, by omega, rfl, HB00.out⟩
          case round =>
            obtain ⟨Ms, Ls3, R3, a3, b3, rfl, rfl, hab, hma, hB3⟩ := hrel
            have HB3 := Lib.hid hB3
            have hm1 := HD.out.2
            have hbb := HBB.out
            obtain ⟨hb20, hb2⟩ := HBS.out
            have hlen := hB3.len
            have hrl := hB3.rl
            by_cases hle3 : b3 ≤ m
            · have hle4 : (b3 : Int) ≤ (m : Int) := by omega
              obtain ⟨L1, L2, Lr, hL⟩ : ∃ L1 L2 Lr, Ls3 = L1 :: L2 :: Lr := by
                cases Ls3 with
                | nil => simp only [List.flatten_nil, List.length_nil] at hlen; omega
                | cons L1 Lr =>
                  have h1 := (hB3.ll L1 (by simp)).1
                  cases Lr with
                  | nil => simp only [List.flatten_cons, List.flatten_nil, List.length_append, List.length_nil] at hlen; omega
                  | cons L2 Lr => exact ⟨L1, L2, Lr, rfl⟩
              subst hL
              obtain ⟨l1, s1⟩ := hB3.ll L1 (by simp)
              obtain ⟨l2, s2⟩ := hB3.ll L2 (by simp)
              obtain ⟨mm, hmm⟩ : ∃ mm, a3 + bs = mm := ⟨_, rfl⟩
              have hln2 : a3 + (bs + (bs + Lr.flatten.length) + R3.length) = m := by simp only [List.flatten_cons, List.length_append] at hlen; omega
              have e1 : Ms.flatten ++ ((L1 :: L2 :: Lr).flatten ++ R3) = Ms.flatten ++ (L1 ++ (L2 ++ (Lr.flatten ++ R3))) := by simp
              have hpr := hB3.pr
              have hst := hB3.stb
              rw [e1] at hpr hst
              have HSYM := Lib.hid (sym_any W0 g n m c k HK.out.2.1 HK.out.2.2 hm1 _ wr a3 mm b3 Ms.flatten L1 L2 (Lr.flatten ++ R3) (Nat.le_refl _) hma (by omega) (by omega) (by rw [List.length_append]; omega) (by intro h; rw [h] at l1; simp at l1; omega) (by intro h; rw [h] at l2; simp at l2; omega) hpr (hst.hk HK.out.1) s1 s2)
              have HNX := Lib.hid (show ∀ w' M, PR W0 w' g n (Ms.flatten ++ (M ++ (Lr.flatten ++ R3))) → M.length = (L1 ++ L2).length → Stb (L1 ++ L2) M → Srt M → (Ms ++ [M]).flatten.length = b3 ∧ Blk W0 w' g n m bs xs (Ms ++ [M]) Lr R3 from fun w' M h1 h2 h3 h4 => by
                rw [List.length_append] at h2
                refine ⟨by rw [flatten_snoc, List.length_append]; omega, by rw [flatten_snoc, List.append_assoc]; exact h1, ?_, by rw [flatten_snoc, List.length_append]; omega, fun L hL => ?_, fun L hL => hB3.ll L (by simp [hL]), hrl, hB3.rs⟩
                · rw [flatten_snoc, List.append_assoc]
                  refine hst.trans ((Stb.refl _).append ?_)
                  have := h3.append (Stb.refl (Lr.flatten ++ R3))
                  simpa using this
                · rcases List.mem_append.1 hL with hL | hL
                  · exact hB3.lm L hL
                  · obtain rfl := List.mem_singleton.1 hL
                    exact ⟨by omega, h4⟩)
              have HWA := Lib.hid (show wrap64 ((a3 : Int) + (bs : Int)) = (mm : Int) from wrap_add (by omega) (by omega))
              have HWB := Lib.hid (show wrap64 ((b3 : Int) + (b2 : Int)) = ((b3 + b2 : Nat) : Int) from wrap_add rfl (by omega))
              have HN3 := Lib.hid (show m + 4000 - (b3 + b2) < m + 4000 - b3 from by omega)
              clear hB3 hab hma hbb hb20 hb2 hlen hrl hle3 l1 s1 l2 s2 hmm hln2 e1 hpr hst hm1
              have hw2 : wrap64 (2 * (bs : Int)) = (b2 : Int) := HW2.out
              have hwa := HWA.out
              go_wp2_with fail
              clear hw2 hwa
              (try rw [HWA.out])
              refine HSYM.out.mono ?_
              rintro e w5 ⟨M, rfl, hp, hl5, hs, ho⟩
              have HNW := Lib.hid (HNX.out _ M hp hl5 hs ho)
              clear hp hl5 hs ho
              have hw2 : wrap64 (2 * (bs : Int)) = (b2 : Int) := HW2.out
              go_wp2_with fail
              clear hw2
              go_roundw
              case rel => exact ⟨Ms ++ [M], Lr, R3, b3, b3 + b2, rfl, by first | rfl | rw [HWB.out] | rw [HW2.out, HWB.out], rfl, HNW.out.1, HNW.out.2⟩
              case measure => rw [intOf_of' HWB.out, intOf_nat, Int.toNat_natCast, Int.toNat_natCast]; exact HN3.out
            · have hle4 : ¬ (b3 : Int) ≤ (m : Int) := by omega
              obtain ⟨mm, hmm⟩ : ∃ mm, a3 + bs = mm := ⟨_, rfl⟩
              have HWA := Lib.hid (show wrap64 ((a3 : Int) + (bs : Int)) = (mm : Int) from wrap_add (by omega) (by omega))
              have hcase : (∃ L, Ls3 = [L]) ∨ Ls3 = [] := by
                cases Ls3 with
                | nil => exact .inr rfl
                | cons L1 Lr =>
                  have h1 := (hB3.ll L1 (by simp)).1
                  cases Lr with
                  | nil => exact .inl ⟨L1, rfl⟩
                  | cons L2 Lr =>
                    have h2 := (hB3.ll L2 (by simp)).1
                    simp only [List.flatten_cons, List.length_append] at hlen
                    omega
              have HOUT := Lib.hid (show ∀ w' R', PR W0 w' g n (Ms.flatten ++ R') → Stb (Ls3.flatten ++ R3) R' → Srt R' → R'.length = (Ls3.flatten ++ R3).length → Blk W0 w' g n m b2 xs [] Ms R' from fun w' R' h1 h2 h3 h4 => by
                rw [List.length_append] at h4
                refine ⟨by simpa using h1, ?_, by simp only [List.flatten_nil, List.length_nil]; omega, by simp, fun L hL => by have := hB3.lm L hL; exact ⟨by omega, this.2⟩, ?_, h3⟩
                · simp only [List.flatten_nil, List.nil_append]
                  exact hB3.stb.trans ((Stb.refl _).append h2)
                · rcases hcase with ⟨L, rfl⟩ | rfl
                  · have := (hB3.ll L (by simp)).1
                    simp only [List.flatten_cons, List.flatten_nil, List.length_append, List.length_nil] at h4
                    omega
                  · simp only [List.flatten_nil, List.length_nil] at h4
                    omega)
              have HNM := Lib.hid (show m - b2 < m - bs ∧ 20 ≤ b2 ∧ b2 ≤ 2000 from by have := HLT.out; omega)
              by_cases hml : mm < m
              · have hml2 : (mm : Int) < (m : Int) := by omega
                obtain ⟨L, rfl⟩ : ∃ L, Ls3 = [L] := by
                  rcases hcase with h | rfl
                  · exact h
                  · simp only [List.flatten_nil, List.length_nil] at hlen; omega
                obtain ⟨l1, s1⟩ := hB3.ll L (by simp)
                have hln2 : a3 + (bs + R3.length) = m := by simp only [List.flatten_cons, List.flatten_nil, List.length_append, List.length_nil] at hlen; omega
                have hpr := hB3.pr
                have hst := hB3.stb
                have e1 : Ms.flatten ++ ([L].flatten ++ R3) = Ms.flatten ++ (L ++ (R3 ++ [])) := by simp
                rw [e1] at hpr hst
                have HSYM := Lib.hid (sym_any W0 g n m c k HK.out.2.1 HK.out.2.2 hm1 _ wr a3 mm m Ms.flatten L R3 [] (Nat.le_refl _) hma (by omega) (by omega) (by simp) (by intro h; rw [h] at l1; simp at l1; omega) (by intro h; rw [h] at hln2; simp at hln2; omega) hpr (hst.hk HK.out.1) s1 hB3.rs)
                clear hB3 hab hma hbb hb20 hb2 hlen hrl hle3 l1 s1 hmm hln2 e1 hpr hst hm1 hcase hml
                have hw2 := HW2.out
                have hwa := HWA.out
                go_wp2_with fail
                clear hw2 hwa
                (try rw [HWA.out])
                refine HSYM.out.mono ?_
                rintro e w5 ⟨M, rfl, hp, hl5, hs, ho⟩
                have HNW := Lib.hid (HOUT.out _ M (by simpa using hp) (by simpa using hs) ho (by simpa using hl5))
                clear hp hl5 hs ho
                have hw3 := HW3.out
                go_wp2_with fail
                clear hw3
                go_roundw
                case rel => exact ⟨b2, Ms, M, by first | rfl | rw [HW3.out], HNM.out.2.1, HNM.out.2.2, HNW.out⟩
                case measure => first | (rw [intOf_nat, intOf_nat, Int.toNat_natCast, Int.toNat_natCast]; exact HNM.out.1) | (rw [intOf_of' HW3.out, intOf_nat, Int.toNat_natCast, Int.toNat_natCast]; exact HNM.out.1)
              · have hml2 : ¬ (mm : Int) < (m : Int) := by omega
                have hso : Srt (Ls3.flatten ++ R3) := by
                  rcases hcase with ⟨L, rfl⟩ | rfl
                  · obtain ⟨l1, s1⟩ := hB3.ll L (by simp)
                    have : R3 = [] := by
                      simp only [List.flatten_cons, List.flatten_nil, List.length_append, List.length_nil] at hlen
                      exact List.length_eq_zero_iff.1 (by omega)
                    rw [this]
                    simpa only [List.flatten_cons, List.flatten_nil, List.append_nil] using s1
                  · simpa only [List.flatten_nil, List.nil_append] using hB3.rs
                have HNW := Lib.hid (HOUT.out wr (Ls3.flatten ++ R3) hB3.pr (Stb.refl _) hso rfl)
                clear hB3 hab hma hbb hb20 hb2 hlen hrl hle3 hmm hm1 hcase hml hso
                have hw2 := HW2.out
                have hwa := HWA.out
                have hw3 := HW3.out
                go_wp2_with fail
                clear hw2 hwa hw3
                go_roundw
                case rel => exact ⟨b2, Ms, Ls3.flatten ++ R3, by first | rfl | rw [HW3.out], HNM.out.2.1, HNM.out.2.2, HNW.out⟩
                case measure => first | (rw [intOf_nat, intOf_nat, Int.toNat_natCast, Int.toNat_natCast]; exact HNM.out.1) | (rw [intOf_of' HW3.out, intOf_nat, Int.toNat_natCast, Int.toNat_natCast]; exact HNM.out.1)
        · have hlt2 : ¬ (bs : Int) < (m : Int) := by omega
          have HFIN := Lib.hid (show SortR W0 g n xs (.returned (.tuple #[])) wr from by
            have hlen := hB.len
            have hrl := hB.rl
            have hpr := hB.pr
            have hst := hB.stb
            simp only [List.flatten_nil, List.length_nil, List.nil_append] at hlen hpr hst
            refine ⟨Ls2.flatten ++ R2, rfl, hpr, by rw [List.length_append]; have := HD.out.1; omega, hst, ?_⟩
            cases Ls2 with
            | nil => simpa only [List.flatten_nil, List.nil_append] using hB.rs
            | cons L1 Lr =>
              obtain ⟨l1, s1⟩ := hB.ll L1 (by simp)
              cases Lr with
              | nil =>
                have : R2 = [] := by
                  simp only [List.flatten_cons, List.flatten_nil, List.length_append, List.length_nil] at hlen
                  exact List.length_eq_zero_iff.1 (by omega)
                rw [this]
                simpa only [List.flatten_cons, List.flatten_nil, List.append_nil] using s1
              | cons L2 Lr =>
                obtain ⟨l2, _⟩ := hB.ll L2 (by simp)
                simp only [List.flatten_cons, List.length_append] at hlen
                omega)
          clear hB hb20 hb2 hm1 hlt
          go_wp2_with fail
          go_end0
          exact HFIN.out
theorem sort_any : SortOk 1000 := by
  intro W0 w g n c k xs hl hne k1 k16 h hk
  have HI := Lib.hid (stc_any W0 w g n c k xs hl k1 k16 h hk)
  clear h hk hl hne k1 k16
  go_enter Tryz.func118, Tryz.ntmps118
  go_wp2_with fail
  refine HI.out.mono ?_
  rintro e w2 ⟨ys, rfl, h1, h2, h3, h4⟩
  have HF := Lib.hid (And.intro h1 (And.intro h2 (And.intro h3 h4)))
  clear h1 h2 h3 h4
  go_wp2_with fail
  go_end0
  exact ⟨ys, rfl, HF.out.1, HF.out.2.1, HF.out.2.2.1, HF.out.2.2.2⟩
end Go.Proofs.YtjokcagggmjgmaaGreat
/-! MakB -/
namespace Go.Proofs.YtjokcagggmjgmaaGreat
open Go.RowKit
set_option linter.unusedVariables false
set_option linter.unusedSimpArgs false
set_option maxRecDepth 100000

theorem puts_mem {k : Nat} {a l : List En} (ha : Et k a) (hl : ∀ e ∈ l, e.p.length = k ∧ ∀ x ∈ e.p, x < 2 ^ 64) : ∀ e ∈ putsL a l, e ∈ a ∨ e ∈ l := by
  induction l generalizing a with
  | nil => exact fun e he => .inl he
  | cons c l ih =>
    intro e he
    have hc := hl c (by simp)
    rcases ih (ha.ins c.v hc.1 hc.2) (fun e he => hl e (by simp [he])) e he with h | h
    · rcases ha.mem_ins.1 h with h | h
      · exact .inr (by rw [h]; exact List.mem_cons_self)
      · exact .inl h.1
    · exact .inr (List.mem_cons_of_mem _ h)
def MakR (W : World) (k : Nat) (l : List En) (e : Ending) (w' : World) : Prop := ∃ t, e = .returned (.tuple #[.pointer (some ⟨t, 0, none⟩), .int .i64 0]) ∧ TrR w' t k l ∧ Below W.heap.size W w'
set_option maxHeartbeats 2000000 in
theorem make_any (N : Nat) (hS : SortOk N) (w : World) (k : Nat) (l : List En) (v : Value) (hv : RdE w v l) (hlN : l.length ≤ N) (hl : l.length ≤ 1000) (k1 : 1 ≤ k) (k16 : k ≤ 16) (hk : ∀ e ∈ l, e.p.length = k ∧ ∀ q ∈ e.p, q < 2 ^ 64) (hvs : ∀ e ∈ l, e.v < 2 ^ 64) :
    Calls Tryz.prog 27 #[.int .i64 (k : Nat), v] w fun e w' => MakR w k (putsL [] l) e w' := by
  have HNEW := Lib.hid (tnew_any w k k1 k16)
  have HDI := Lib.hid (fun W (hb : Below w.heap.size w W) => dims_any W (k : Nat) l v (hv.below hb) hl)
  have hall : (l.all fun c => ((c.p.length : Nat) : Int) == (k : Int)) = true := List.all_eq_true.2 fun c hc => by rw [(hk c hc).1]; simp
  rw [hall] at HDI
  have HSO := Lib.hid (fun W (hb : Below w.heap.size w W) => sorted_any N hS W k l v (hv.below hb) hlN hl k1 k16 hk)
  have hets : EtS k (putsL [] l) := ⟨(Et.nil k).puts hk, by omega, Nat.le_trans (puts_len [] l) (by simpa using hl)⟩
  have hpv : ∀ e ∈ putsL [] l, e.v < 2 ^ 64 := fun e he => hvs e ((puts_mem (Et.nil k) hk e he).resolve_left (by simp))
  obtain ⟨m, hm⟩ : ∃ m, putsL [] l = m := ⟨_, rfl⟩
  rw [hm] at HSO hets hpv
  rw [hm]
  have HE := Lib.hid (And.intro hets (And.intro hpv (And.intro k1 k16)))
  obtain ⟨A, c, rfl, _⟩ := hv
  clear hall hets hpv hm hk hvs hl hlN k1 k16 hS
  go_enter Tryz.func27, Tryz.ntmps27
  go_wp2_with fail
  refine HNEW.out.mono ?_
  rintro e w1 ⟨g, rfl, ht, hb⟩
  have HT := Lib.hid (And.intro ht hb)
  clear ht hb
  go_wp2_with fail
  refine (HDI.out _ HT.out.2).mono ?_
  rintro e w2 ⟨rfl, hb⟩
  have HB2 := Lib.hid (HT.out.2.trans (hb.mono HT.out.2.size))
  have HK := Lib.hid (tk_any w2 g k (HT.out.1.bel hb).c0)
  clear hb
  go_wp2_with fail
  refine HK.out.mono ?_
  rintro e w3 ⟨rfl, hw⟩
  obtain rfl := hw.symm
  clear hw
  go_wp2_with fail
  refine (HSO.out _ HB2.out).mono ?_
  rintro e w4 ⟨v4, rfl, hr4, hb4⟩
  have HB4 := Lib.hid (HB2.out.trans (hb4.mono HB2.out.size))
  clear hb4
  by_cases hne : m = []
  · subst hne
    obtain ⟨A4, c4, rfl, _⟩ := hr4
    simp only [List.length_nil]
    have HBN := Lib.hid (bld_nil w4 A4 c4)
    have HOF := Lib.hid (of_nil w4 k HE.out.2.2.1 HE.out.2.2.2)
    go_wp2_with fail
    refine HBN.out.mono ?_
    rintro e w5 ⟨rfl, hw⟩
    obtain rfl := hw.symm
    clear hw
    go_wp2_with fail
    refine HOF.out.mono ?_
    rintro e w6 ⟨t, rfl, ht6, hb6⟩
    have HF := Lib.hid (And.intro ht6 (HB4.out.trans (hb6.mono HB4.out.size)))
    clear ht6 hb6
    go_wp2_with fail
    go_ret2
    exact ⟨t, rfl, HF.out.1, HF.out.2⟩
  · have HBN := Lib.hid (build_any k HE.out.2.2.1 HE.out.2.2.2 _ m w4 v4 (Nat.le_refl _) hr4 HE.out.1 hne HE.out.2.1)
    obtain ⟨A4, c4, rfl, _⟩ := hr4
    go_wp2_with fail
    refine HBN.out.mono ?_
    rintro e w5 ⟨g5, rfl, hn5, hb5⟩
    have HOF := Lib.hid (of_nd w5 k g5 m hn5 HE.out.2.2.1 HE.out.2.2.2)
    have HB5 := Lib.hid (HB4.out.trans (hb5.mono HB4.out.size))
    clear hb5 hn5
    go_wp2_with fail
    refine HOF.out.mono ?_
    rintro e w6 ⟨t, rfl, ht6, hb6⟩
    have HF := Lib.hid (And.intro ht6 (HB5.out.trans (hb6.mono HB5.out.size)))
    clear ht6 hb6
    go_wp2_with fail
    go_ret2
    exact ⟨t, rfl, HF.out.1, HF.out.2⟩
end Go.Proofs.YtjokcagggmjgmaaGreat
/-! PlnT -/
namespace Go.Proofs.YtjokcagggmjgmaaGreat
open Go.RowKit
set_option linter.unusedVariables false
set_option linter.unusedSimpArgs false
set_option maxRecDepth 100000

def smB (p : List Nat) : Bool := match p with
  | [a, b] => decide (max a b < 1048576)
  | _ => false
theorem smB_sm {p : List Nat} (h : smB p = true) : Sm2 p := by
  unfold smB at h
  split at h
  · rename_i a b
    rw [decide_eq_true_iff] at h
    exact ⟨a, b, rfl, by omega, by omega⟩
  · cases h
/-- what plane.Tree hands back -/
def PTrP (t : Int) (f : Bool) (dx dy : Int) (W : World) (l : List En) (e : Ending) (w' : World) : Prop := Below W.heap.size W w' ∧
  match l.all (fun x => smB x.p), l.all (fun x => mvOk t f dx dy x.p) with
  | false, _ => e = .returned (.tuple #[.pointer none, .int .i64 3])
  | true, false => e = .returned (.tuple #[.pointer none, .int .i64 11])
  | true, true => ∃ g, e = .returned (.tuple #[.pointer (some ⟨g, 0, none⟩), .int .i64 0]) ∧ TrR w' g 2 (putsL [] (l.map (mvE t f dx dy)))
theorem psmall_any (p : List Nat) (v : Value) (w : World) (hv : RdU w v (pti p)) (hp : p.length = 2) : Calls Tryz.prog 84 #[v] w fun e w' => e = .returned (.bool (smB p)) ∧ ∃ n, w' = w.drewN n := by
  obtain ⟨a, b, rfl⟩ : ∃ a b, p = [a, b] := by
    match p, hp with
    | [a, b], _ => exact ⟨a, b, rfl⟩
  obtain ⟨B, o, c, rfl, h0, h1⟩ := RdU.of_two hv
  have h := small_two B o c a b w h0 h1
  refine h.mono ?_
  rintro e w' ⟨rfl, n, rfl⟩
  refine ⟨?_, n, rfl⟩
  have : smB [a, b] = decide (max (a : Int) b < 1048576) := by
    show decide (max a b < 1048576) = _
    congr 1
    apply propext
    omega
  rw [this]
theorem ptree_nil (w : World) (t : Int) (f : Bool) (dx dy : Int) : Calls Tryz.prog 44 #[.pointer none, Mo t f dx dy] w fun e w' => e = .returned (.tuple #[.pointer none, .int .i64 1]) ∧ Below w.heap.size w w' := by
  go_enter Tryz.func44, Tryz.ntmps44
  go_wp2_with fail
  go_ret2
  exact ⟨rfl, (by repeat (first | exact Below.refl _ _ | (refine Below.drew ?_) | (refine below_drewN' ?_ _) | (refine below_alloc' ?_ _) | (refine Below.setCell ?_ (by first | exact Nat.le_refl _ | (simp; done) | (simp; omega)) _)))⟩
theorem ptree_arg (w : World) (b k : Nat) (l : List En) (t : Int) (f : Bool) (dx dy : Int) (h : TrR w b k l) (hr : Pl.rightB t dx dy = false) : Calls Tryz.prog 44 #[.pointer (some ⟨b, 0, none⟩), Mo t f dx dy] w fun e w' => e = .returned (.tuple #[.pointer none, .int .i64 3]) ∧ Below w.heap.size w w' := by
  have HR := Lib.hid (fun w => Right_any t f dx dy w)
  rw [hr] at HR
  clear h hr
  go_enter Tryz.func44, Tryz.ntmps44
  go_wp2_with fail
  refine (HR.out _).mono ?_
  rintro e w1 ⟨rfl, rfl⟩
  go_wp2_with fail
  go_ret2
  exact ⟨rfl, (by repeat (first | exact Below.refl _ _ | (refine Below.drew ?_) | (refine below_drewN' ?_ _) | (refine below_alloc' ?_ _) | (refine Below.setCell ?_ (by first | exact Nat.le_refl _ | (simp; done) | (simp; omega)) _)))⟩
theorem ptree_dim (w : World) (b k : Nat) (l : List En) (t : Int) (f : Bool) (dx dy : Int) (h : TrR w b k l) (hr : Pl.rightB t dx dy = true) (hk : k ≠ 2) : Calls Tryz.prog 44 #[.pointer (some ⟨b, 0, none⟩), Mo t f dx dy] w fun e w' => e = .returned (.tuple #[.pointer none, .int .i64 2]) ∧ Below w.heap.size w w' := by
  have HR := Lib.hid (fun w => Right_any t f dx dy w)
  rw [hr] at HR
  have HK := Lib.hid (fun w' (hb : Below w.heap.size w w') => tk_any w' b k (Below.keeps hb _ _ h.c0))
  have hk1 : ¬ (k : Int) = 2 := by omega
  have hk2 : ((k : Int) == 2) = false := by simp; omega
  have hk3 : ((k : Int) != 2) = true := by simp; omega
  clear h hr hk
  go_enter Tryz.func44, Tryz.ntmps44
  go_wp2_with fail
  refine (HR.out _).mono ?_
  rintro e w1 ⟨rfl, rfl⟩
  go_wp2_with fail
  refine (HK.out _ (by repeat (first | exact Below.refl _ _ | (refine Below.drew ?_) | (refine below_drewN' ?_ _) | (refine below_alloc' ?_ _) | (refine Below.setCell ?_ (by first | exact Nat.le_refl _ | (simp; done) | (simp; omega)) _)))).mono ?_
  rintro e w1 ⟨rfl, hw⟩
  obtain rfl := hw.symm
  clear hw
  go_wp2_with fail
  go_ret2
  exact ⟨rfl, (by repeat (first | exact Below.refl _ _ | (refine Below.drew ?_) | (refine below_drewN' ?_ _) | (refine below_alloc' ?_ _) | (refine Below.setCell ?_ (by first | exact Nat.le_refl _ | (simp; done) | (simp; omega)) _)))⟩
end Go.Proofs.YtjokcagggmjgmaaGreat
/-! MapP -/
namespace Go.Proofs.YtjokcagggmjgmaaGreat
open Go.RowKit
set_option linter.unusedVariables false

end Go.Proofs.YtjokcagggmjgmaaGreat
/-! MapA -/
namespace Go.Proofs.YtjokcagggmjgmaaGreat
open Go.RowKit
set_option linter.unusedVariables false
set_option linter.unusedSimpArgs false
set_option maxRecDepth 100000

end Go.Proofs.YtjokcagggmjgmaaGreat
/-! MapB -/
namespace Go.Proofs.YtjokcagggmjgmaaGreat
open Go.RowKit
set_option linter.unusedVariables false
set_option linter.unusedSimpArgs false
set_option maxRecDepth 100000

end Go.Proofs.YtjokcagggmjgmaaGreat
/-! SomA -/
namespace Go.Proofs.YtjokcagggmjgmaaGreat
open Go.RowKit
set_option linter.unusedVariables false
set_option linter.unusedSimpArgs false
set_option maxRecDepth 100000

end Go.Proofs.YtjokcagggmjgmaaGreat
/-! SomB -/
namespace Go.Proofs.YtjokcagggmjgmaaGreat
open Go.RowKit
set_option linter.unusedVariables false
set_option linter.unusedSimpArgs false
set_option maxRecDepth 100000

end Go.Proofs.YtjokcagggmjgmaaGreat
/-! NdE -/
namespace Go.Proofs.YtjokcagggmjgmaaGreat
open Go.RowKit
set_option linter.unusedVariables false
set_option maxRecDepth 100000

end Go.Proofs.YtjokcagggmjgmaaGreat
/-! SomC -/
namespace Go.Proofs.YtjokcagggmjgmaaGreat
open Go.RowKit
set_option linter.unusedVariables false
set_option linter.unusedSimpArgs false
set_option maxRecDepth 100000

end Go.Proofs.YtjokcagggmjgmaaGreat
/-! RefM -/
namespace Go.Proofs.YtjokcagggmjgmaaGreat
open Go.RowKit
set_option linter.unusedVariables false
set_option linter.unusedSimpArgs false
set_option maxRecDepth 100000

end Go.Proofs.YtjokcagggmjgmaaGreat
/-! AwkA -/
namespace Go.Proofs.YtjokcagggmjgmaaGreat
open Go.RowKit
set_option linter.unusedVariables false
set_option linter.unusedSimpArgs false
set_option maxRecDepth 100000

end Go.Proofs.YtjokcagggmjgmaaGreat
/-! OpenC -/
namespace Go.Proofs.YtjokcagggmjgmaaGreat
open Go.RowKit Go.ChangeShapes Go.WideShapes Go.Deep
set_option linter.unusedVariables false

section
variable {H : Type} {enc : TypeId × Value → H} {P : Program} {w : World} {base : Nat} {spare : Nat → Bool} {held : Bool}
theorem open_slice_fields {t e : TypeId} {fs : Array Field} {fuel : Nat} {cs : List Value} {x : DataW H × List MemPlace} (ht : P.underlying t = some (.slice e)) (he : P.underlying e = some (.struct fs))
    (hone : oneCellFields P fs = true) (hC : P.cellsOf e = fs.size) (h : DataW.trod enc P w base spare held fuel t cs = some x) :
    (cs = [.slice none 0 0]) ∨
    ∃ (a : Addr) (len cap m : Nat), cs = [.slice (some a) len cap] ∧ len ≤ cap ∧ cap ≤ maxLen ∧ m = (if spare a.block then cap else len) ∧
      ∀ i, i < m → ∀ (j : Nat) (f : Field), fs[j]? = some f → ∃ (v : Value) (y : DataW H × List MemPlace) (n : Nat), w.cell? (a.add (i * fs.size + j)) = some v ∧ DataW.trod enc P w base spare held n f.type [v] = some y := by
  rcases open_slice ht h with h0 | ⟨a, len, cap, m, n, D, Pl, hcs, hb, hl, hm, hmm, hx, hi⟩
  · exact .inl h0.1
  · refine .inr ⟨a, len, cap, m, hcs, hl, hm, hmm, fun i him => ?_⟩
    obtain ⟨cs', hc, ht'⟩ := hi i him
    rw [hC] at hc
    obtain ⟨ys, n', hn', hy, hlen, hyl, hf⟩ := DataW.trod_struct he ht'
    obtain ⟨_, hcl, hat⟩ := World.cells?_some hc
    intro j f hj
    obtain ⟨ho, hk⟩ := hone_of hone j f hj
    have hjl : j < fs.size := (Array.getElem?_eq_some_iff.1 hj).1
    have hcell := hat j hjl
    have hv : cs'[j]? = some (cs'[j]'(by omega)) := List.getElem?_eq_getElem (by omega)
    have h1 := hf j f hj
    rw [ho, hk] at h1
    have hone' : (cs'.drop j).take 1 = [cs'[j]'(by omega)] := by
      rw [List.drop_eq_getElem_cons (by omega)]
      rfl
    rw [hone'] at h1
    have hys : ys[j]? = some (ys[j]'(by omega)) := List.getElem?_eq_getElem (by omega)
    refine ⟨_, _, n', ?_, h1.trans hys⟩
    rw [← Go.Deep.add_add, hcell, hv]
end
theorem spot_none {w : World} {a : Addr} {v : Value} (h : w.cell? a = some v) : ∃ b o, a = ⟨b, o, none⟩ := by
  obtain ⟨b, o, sp⟩ := a
  cases sp with
  | none => exact ⟨b, o, rfl⟩
  | some q => simp [World.cell?] at h; split at h <;> cases h
theorem add_plain (b o j : Nat) : (⟨b, o, none⟩ : Addr).add j = ⟨b, o + j, none⟩ := by
  unfold Addr.add; split
  · rename_i h; subst h; rfl
  · rfl
theorem pti_toNat {xs : List Int} (h : ∀ x ∈ xs, 0 ≤ x ∧ x ≤ 18446744073709551615) : pti (xs.map Int.toNat) = xs := by
  unfold pti
  rw [List.map_map]
  conv => rhs; rw [← List.map_id xs]
  apply List.map_congr_left
  intro x hx
  have := h x hx
  simp only [Function.comp_apply, id]
  omega
instance : Inhabited Ch := ⟨⟨[], false, false, 0, 0⟩⟩
end Go.Proofs.YtjokcagggmjgmaaGreat
/-! OpenA -/
namespace Go.Proofs.YtjokcagggmjgmaaGreat
open Go.RowKit Go.ChangeShapes Go.WideShapes Go.Deep
set_option linter.unusedVariables false

/-- an act's numbers, whatever its point's length -/
def Ac.OkV (a : Ac) : Prop := (∀ c ∈ a.p, c < 2 ^ 64) ∧ a.v < 2 ^ 64
theorem open_acts {H : Type} {enc : TypeId × Value → H} {W : World} {base : Nat} {held : Bool} {v : Value} {x : DataW H × List MemPlace} {fuel : Nat}
    (h : DataW.trod enc Tryz.prog W base (fun _ => true) held fuel 22 [v] = some x) :
    ∃ l, RdA W v l ∧ (∀ c ∈ l, Ac.OkV c) ∧ l.length ≤ maxLen ∧ ∃ A n c, v = .slice A n c ∧ n ≤ c ∧ c ≤ maxLen ∧ (0 < c → ∃ b o, A = some ⟨b, o, none⟩) := by
  have hu : ∃ fs, Tryz.prog.underlying 86 = some (.struct fs) ∧ fs.size = 3 ∧ (fs[0]?.map (·.type) = some 4) ∧ (fs[1]?.map (·.type) = some 48) ∧ (fs[2]?.map (·.type) = some 49) ∧ oneCellFields Tryz.prog fs = true ∧ Tryz.prog.cellsOf 86 = fs.size :=
    ⟨_, Tryz.underlying86, by kernel_rfl, by kernel_rfl, by kernel_rfl, by kernel_rfl, by kernel_rfl, by kernel_rfl⟩
  obtain ⟨fs, he, hs, t0, t1, t2, hone, hC⟩ := hu
  rcases open_slice_fields Tryz.underlying22 he hone hC h with h0 | ⟨a, len, cap, m, hcs, hl, hm, hmm, hf⟩
  · simp only [List.cons.injEq, and_true] at h0
    subst h0
    exact ⟨[], ⟨none, 0, rfl, fun h => absurd h (by simp)⟩, fun c hc => by simp at hc, by simp [maxLen], none, 0, 0, rfl, Nat.le_refl _, Nat.zero_le _, fun h => absurd h (by omega)⟩
  · simp only [List.cons.injEq, and_true] at hcs
    subst hcs
    have hlm : len ≤ m := by rw [hmm]; split <;> omega
    rw [hs] at hf
    have hmc : m = cap := by rw [hmm]; rfl
    have hab : 0 < cap → ∃ b o, a = ⟨b, o, none⟩ := by
      intro h0
      obtain ⟨f0, q0, r0⟩ := Option.map_eq_some_iff.1 t0
      obtain ⟨v0, y0, n0, c0, d0⟩ := hf 0 (by omega) 0 f0 q0
      exact spot_none (by simpa [Addr.add] using c0)
    have each : ∀ i, i < len → ∃ c, (Ac.OkV c) ∧ ∃ b o, a = ⟨b, o, none⟩ ∧ AcAt W b (o + i * 3) c := by
      intro i hi
      have hfi := hf i (by omega)
      obtain ⟨f0, q0, r0⟩ := Option.map_eq_some_iff.1 t0
      obtain ⟨f1, q1, r1⟩ := Option.map_eq_some_iff.1 t1
      obtain ⟨f2, q2, r2⟩ := Option.map_eq_some_iff.1 t2
      obtain ⟨v0, y0, n0, c0, d0⟩ := hfi 0 f0 q0
      obtain ⟨v1, y1, n1, c1, d1⟩ := hfi 1 f1 q1
      obtain ⟨v2, y2, n2, c2, d2⟩ := hfi 2 f2 q2
      rw [r0] at d0; rw [r1] at d1; rw [r2] at d2
      obtain ⟨b, o, ha⟩ := hab (by omega)
      subst ha
      rw [add_plain] at c0 c1 c2
      obtain ⟨b0, e0, _⟩ := DataW.trod_bool Tryz.underlying4 d0
      obtain ⟨i2, e2, _, w2⟩ := DataW.trod_int Tryz.underlying49 d2
      simp only [List.cons.injEq, and_true] at e0 e2
      subst e0 e2
      have hp1 : ∃ xs : List Int, (∀ x ∈ xs, 0 ≤ x ∧ x ≤ 18446744073709551615) ∧ RdU W v1 xs := by
        rcases open_ints Tryz.underlying48 Tryz.underlying49 (by kernel_rfl) d1 with ⟨hcs, _⟩ | ⟨x, l, c, zs, hcs, _, hl, hm, hz, _, hcell, hwz⟩
        · simp only [List.cons.injEq, and_true] at hcs
          subst hcs
          exact ⟨[], fun x hx => by simp at hx, RdU.nil _ _ _⟩
        · simp only [List.cons.injEq, and_true] at hcs
          subst hcs
          obtain ⟨xs, _, _, h3, h4⟩ := RdU.of_row (w := W) (a := some x) (len := l) (cap := c) (zs := zs) (.inr ⟨_, rfl, hl, hm, by simpa using hz, hcell, hwz⟩)
          exact ⟨xs, h3, h4⟩
      obtain ⟨xs1, hx1, hv1⟩ := hp1
      have ho1 : ∀ y ∈ xs1.map Int.toNat, y < 2 ^ 64 := fun y hy => by
        simp only [List.mem_map] at hy
        obtain ⟨z, hz, rfl⟩ := hy
        have := hx1 z hz
        omega
      have g2 := bounds_u64 w2
      refine ⟨(⟨b0, xs1.map Int.toNat, i2.toNat⟩ : Ac), ⟨ho1, by show i2.toNat < 2 ^ 64; omega⟩, b, o, rfl, ?_⟩
      have z0 : W.cell? ⟨b, o + i * 3, none⟩ = some (.bool b0) := by simpa [Nat.add_assoc] using c0
      have z1 : W.cell? ⟨b, o + i * 3 + 1, none⟩ = some v1 := by simpa [Nat.add_assoc] using c1
      have y1' : RdU W v1 (pti (xs1.map Int.toNat)) := by rw [pti_toNat hx1]; exact hv1
      have z2 : W.cell? ⟨b, o + i * 3 + 2, none⟩ = some (.int .u64 (i2.toNat : Nat)) := by rw [show ((i2.toNat : Nat) : Int) = i2 by omega]; simpa [Nat.add_assoc] using c2
      exact ⟨v1, z0, by simpa [Nat.add_assoc] using z1, y1', by simpa [Nat.add_assoc] using z2⟩
    obtain ⟨f, hF⟩ := choose_lt each
    refine ⟨(List.range len).map f, ⟨some a, cap, by simp, fun hp => ?_⟩, ?_, by simp; omega, some a, len, cap, rfl, hl, hm, fun h => ?_⟩
    · have hp' : 0 < len := by simpa using hp
      obtain ⟨_, b, o, ha, _⟩ := hF 0 hp'
      refine ⟨b, o, by rw [ha], fun j hj => ?_⟩
      obtain ⟨_, b', o', ha', hc⟩ := hF j (by simpa using hj)
      rw [ha] at ha'
      injection ha' with e1 e2
      subst e1 e2
      simpa using hc
    · intro c hc
      simp only [List.mem_map, List.mem_range] at hc
      obtain ⟨j, hj, rfl⟩ := hc
      exact (hF j hj).1
    · obtain ⟨b, o, ha⟩ := hab h
      exact ⟨b, o, by rw [ha]⟩
end Go.Proofs.YtjokcagggmjgmaaGreat
/-! LawMaps -/
namespace Go.Proofs.YtjokcagggmjgmaaGreat
open Go.RowKit
set_option linter.unusedVariables false
set_option linter.unusedSimpArgs false
set_option maxRecDepth 100000

theorem Nd.vlt {w : World} {k b : Nat} {l : List En} (h : Nd w k b l) : ∀ e ∈ l, e.v < 2 ^ 64 := by
  induction h with
  | leaf b p v h hp ho hv =>
    intro e he
    obtain rfl : e = ⟨p, v⟩ := by simpa using he
    exact hv
  | node b s n pre ks h hs hkd hn ih =>
    intro e he
    obtain ⟨x, hx, he⟩ := mem_cat.1 he
    obtain ⟨y, hy, rfl⟩ := List.mem_map.1 hx
    exact ih y hy e he
theorem TrR.vlt {w : World} {k t : Nat} {l : List En} (h : TrR w t k l) : ∀ e ∈ l, e.v < 2 ^ 64 := by
  obtain ⟨r, _, h2⟩ := h.c1
  cases r with
  | none => obtain rfl : l = [] := h2; intro e he; simp at he
  | some b => exact Nd.vlt h2
end Go.Proofs.YtjokcagggmjgmaaGreat
/-! PlnU -/
namespace Go.Proofs.YtjokcagggmjgmaaGreat
open Go.RowKit
set_option linter.unusedVariables false
set_option linter.unusedSimpArgs false
set_option maxRecDepth 100000

theorem moved_set (F : En → En) (l : List En) (j : Nat) (h : j < l.length) (x : En) (hx : x = F l[j]) : ((l.take j).map F ++ l.drop j).set j x = (l.take (j + 1)).map F ++ l.drop (j + 1) := by
  rw [List.set_append_right _ _ (by simp; omega)]
  have e : j - ((l.take j).map F).length = 0 := by simp; omega
  rw [e, ← List.getElem_cons_drop h, List.set_cons_zero, hx, ← List.take_append_getElem h, List.map_append, List.append_assoc]
  rfl
set_option maxHeartbeats 4000000 in
theorem ptree_any (w : World) (b : Nat) (l : List En) (t : Int) (f : Bool) (dx dy : Int) (h : TrR w b 2 l) (hr : Pl.rightB t dx dy = true) (hl : l.length ≤ 1000) :
    Calls Tryz.prog 44 #[.pointer (some ⟨b, 0, none⟩), Mo t f dx dy] w fun e w' => PTrP t f dx dy w l e w' := by
  have HR := Lib.hid (fun w => Right_any t f dx dy w)
  rw [hr] at HR
  have HK := Lib.hid (fun w' (hb : Below w.heap.size w w') => tk_any w' b 2 (Below.keeps hb _ _ h.c0))
  rw [show ((2 : Nat) : Int) = 2 from rfl] at HK
  obtain ⟨r, c1, hrt⟩ := h.c1
  have HAL := fun w' (hb : Below w.heap.size w w') => wall_any w' 2 r l (hrt.below hb) (by decide) (by decide) (by omega)
  obtain ⟨q, hq⟩ := pv_ex r
  rw [hq] at HAL c1
  have HAL := Lib.hid HAL
  have HRT := Lib.hid (fun w' (hb : Below w.heap.size w w') => troot_any w' b q (Below.keeps hb _ _ c1))
  have HD := Lib.hid (And.intro hl (And.intro hr h.et))
  have HVL := Lib.hid h.vlt
  clear h hr hl c1 hrt hq
  go_enter Tryz.func44, Tryz.ntmps44
  go_wp2_with fail
  refine (HR.out _).mono ?_
  rintro e w1 ⟨rfl, rfl⟩
  go_wp2_with fail
  refine (HK.out _ (by repeat (first | exact Below.refl _ _ | (refine Below.drew ?_) | (refine below_drewN' ?_ _) | (refine below_alloc' ?_ _) | (refine Below.setCell ?_ (by first | exact Nat.le_refl _ | (simp; done) | (simp; omega)) _)))).mono ?_
  rintro e w1 ⟨rfl, hw⟩
  obtain rfl := hw.symm
  clear hw
  go_wp2_with fail
  refine (HRT.out _ (by repeat (first | exact Below.refl _ _ | (refine Below.drew ?_) | (refine below_drewN' ?_ _) | (refine below_alloc' ?_ _) | (refine Below.setCell ?_ (by first | exact Nat.le_refl _ | (simp; done) | (simp; omega)) _)))).mono ?_
  rintro e w1 ⟨rfl, hw⟩
  obtain rfl := hw.symm
  clear hw
  go_wp2_with fail
  refine (HAL.out _ (by repeat (first | exact Below.refl _ _ | (refine Below.drew ?_) | (refine below_drewN' ?_ _) | (refine below_alloc' ?_ _) | (refine Below.setCell ?_ (by first | exact Nat.le_refl _ | (simp; done) | (simp; omega)) _)))).mono ?_
  rintro e w3 ⟨v, rfl, hown, hb3⟩
  have HSB := Lib.hid (show w3.heap[w.heap.size]? = some (MoB t f dx dy) from ((below_trans ((by repeat (first | exact Below.refl _ _ | (refine Below.drew ?_) | (refine below_drewN' ?_ _) | (refine below_alloc' ?_ _) | (refine Below.setCell ?_ (by first | exact Nat.le_refl _ | (simp; done) | (simp; omega)) _))) : Below (w.alloc (MoB t f dx dy)).heap.size (w.alloc (MoB t f dx dy)) _) hb3).block _ (by simp)).trans (alloc_blk _ _))
  have HB3 := Lib.hid (show Below w.heap.size w w3 from below_trans (by repeat (first | exact Below.refl _ _ | (refine Below.drew ?_) | (refine below_drewN' ?_ _) | (refine below_alloc' ?_ _) | (refine Below.setCell ?_ (by first | exact Nat.le_refl _ | (simp; done) | (simp; omega)) _))) hb3)
  have HOWN := Lib.hid (And.intro hown hb3)
  have HRD := Lib.hid (hown.rd (fun u p hu => hu.rd))
  obtain ⟨A, c, rfl⟩ := hown.shape
  obtain ⟨A', c', e', _, hx⟩ := HRD.out
  simp only [Value.slice.injEq] at e'
  obtain ⟨rfl, _, rfl⟩ := e'
  have HX := Lib.hid hx
  obtain ⟨sb, hsb⟩ : ∃ s, w.heap.size = s := ⟨_, rfl⟩
  rw [hsb] at HSB
  clear hown hb3 hx
  go_wp2_with fail
  go_loopw [28] (fun iv wr => ∃ (j : Nat), j ≤ l.length ∧ iv = .int .i64 (j : Nat) ∧ (l.take j).all (fun x => smB x.p) = true ∧ Below w3.heap.size w3 wr) (fun iv _ => l.length - (intOf iv).toNat)
  case atStart => exact ⟨0, Nat.zero_le _, rfl, rfl, (by repeat (first | exact Below.refl _ _ | (refine Below.drew ?_) | (refine below_drewN' ?_ _) | (refine below_alloc' ?_ _) | (refine Below.setCell ?_ (by first | exact Nat.le_refl _ | (simp; done) | (simp; omega)) _)))⟩
  case round =>
    obtain ⟨j, hj, rfl, hall, hb⟩ := hrel
    have HB := Lib.hid hb
    by_cases hlt : j < l.length
    · have h3 : (j : Int) < l.length := by omega
      have h5 : (0 : Int) ≤ (j : Int) := by omega
      have HW := Lib.hid (show wrap64 ((j : Int) + 1) = ((j + 1 : Nat) : Int) by have := HD.out.1; unfold wrap64; omega)
      obtain ⟨bk, ofs, rfl, hc⟩ := HX.out (by omega)
      obtain ⟨u, k0, ku, k1⟩ := hc j hlt
      replace k0 := Below.keeps hb _ _ k0
      replace k1 := Below.keeps hb _ _ k1
      have HAL2 := Lib.hid (show (l.take (j + 1)).all (fun x => smB x.p) = smB l[j].p by rw [← List.take_append_getElem hlt, List.all_append, hall]; simp)
      have hln := HD.out.2.2.len _ (List.getElem_mem hlt)
      have HSM := Lib.hid (fun w' (hb : Below w3.heap.size w3 w') => psmall_any l[j].p u w' (ku.below hb) hln)
      have HNO := Lib.hid (fun (h : smB l[j].p = false) => (show l.all (fun x => smB x.p) = false from List.all_eq_false.2 ⟨l[j], List.getElem_mem hlt, by simp [h]⟩))
      obtain ⟨A0, cc, rfl, _⟩ := RdU.point ku
      have hblt : bk < wr.heap.size := World.block_lt_of_cell? wr _ k0
      obtain ⟨ok, hok⟩ : ∃ b, smB l[j].p = b := ⟨_, rfl⟩
      rw [hok] at HAL2 HSM HNO
      generalize l[j].p = xp at *
      generalize l[j].v = xv at *
      clear hc ku hb hln hok hall
      go_wp2_with fail
      refine (HSM.out _ (below_trans HB.out (by repeat (first | exact Below.refl _ _ | (refine Below.drew ?_) | (refine below_drewN' ?_ _) | (refine below_alloc' ?_ _) | (refine Below.setCell ?_ (by first | exact Nat.le_refl _ | (simp; done) | (simp; omega)) _))))).mono ?_
      rintro e w4 ⟨rfl, n4, rfl⟩
      cases ok with
      | false =>
        have HF := Lib.hid (HNO.out rfl)
        go_wp2_with fail
        go_ret2
        refine ⟨below_trans HB3.out (below_trans HB.out (by repeat (first | exact Below.refl _ _ | (refine Below.drew ?_) | (refine below_drewN' ?_ _) | (refine below_alloc' ?_ _) | (refine Below.setCell ?_ (by first | exact Nat.le_refl _ | (simp; done) | (simp; omega)) _)))), ?_⟩
        rw [HF.out]
        rfl
      | true =>
        have HB4 := Lib.hid (show Below w3.heap.size w3 ((wr.alloc (.cells #[.slice A0 xp.length cc, .int .u64 (xv : Nat)] 51)).drewN n4) from below_trans HB.out (by repeat (first | exact Below.refl _ _ | (refine Below.drew ?_) | (refine below_drewN' ?_ _) | (refine below_alloc' ?_ _) | (refine Below.setCell ?_ (by first | exact Nat.le_refl _ | (simp; done) | (simp; omega)) _))))
        go_wp2_with fail
        go_roundw
        case rel => exact ⟨j + 1, by omega, (by first | rw [HW.out] | rfl | simp), HAL2.out, below_trans HB4.out (by repeat (first | exact Below.refl _ _ | (refine Below.drew ?_) | (refine below_drewN' ?_ _) | (refine below_alloc' ?_ _) | (refine Below.setCell ?_ (by first | exact Nat.le_refl _ | (simp; done) | (simp; omega)) _)))⟩
        case measure => (first | (rw [intOf_of' HW.out, intOf_of' rfl]; omega) | (simp [intOf]; omega) | (simp [intOf] <;> omega))
    · have h3 : ¬ (j : Int) < (l.length : Int) := by omega
      have e : l.take j = l := List.take_of_length_le (by omega)
      rw [e] at hall
      have HALL := Lib.hid hall
      clear hb e hall
      have HBW := Lib.hid (HB3.out.trans (HB.out.mono HB3.out.size))
      have HSB2 := Lib.hid ((HB.out.block _ (lt_of_block HSB.out)).trans HSB.out)
      by_cases hl0 : l = []
      · subst hl0
        simp only [List.length_nil] at *
        go_wp2_with fail
        go_loopw [39] (fun iv wx => iv = .int .i64 0 ∧ Below wr.heap.size wr wx) (fun iv _ => 0)
        case atStart => exact ⟨rfl, (by repeat (first | exact Below.refl _ _ | (refine Below.drew ?_) | (refine below_drewN' ?_ _) | (refine below_alloc' ?_ _) | (refine Below.setCell ?_ (by first | exact Nat.le_refl _ | (simp; done) | (simp; omega)) _)))⟩
        case round =>
          obtain ⟨rfl, hbx⟩ := hrel
          have hmk := make_any 1000 sort_any _ 2 [] _ ((HRD.out.below HB.out).below hbx) (by simp) (by simp) (by decide) (by decide) (fun e he => by cases he) (fun e he => by cases he)
          rw [show ((2 : Nat) : Int) = 2 from rfl] at hmk
          try simp only [List.length_nil] at hmk
          have HMK := Lib.hid hmk
          have HBX := Lib.hid (HBW.out.trans (hbx.mono HBW.out.size))
          clear hmk hbx
          go_wp2_with fail
          refine (HMK.out).mono ?_
          rintro e w5 ⟨tt, rfl, htt, hb5⟩
          have HF := Lib.hid (And.intro htt (HBX.out.trans (hb5.mono HBX.out.size)))
          clear htt hb5
          go_wp2_with fail
          go_ret2
          exact ⟨HF.out.2, tt, rfl, HF.out.1⟩
      · have HROW := HOWN.out.1.row HOWN.out.2 hl0
        obtain ⟨g, n, e9, hrow⟩ := HROW
        simp only [Value.slice.injEq] at e9
        obtain ⟨rfl, _, rfl⟩ := e9
        have hlow := hrow.low
        have HG := Lib.hid (show sb < g from by simp at hlow; omega)
        have hr1 := hrow.step HB.out
        have HR0 := Lib.hid (show RowD w wr g c l from ⟨hr1.cells, hr1.le, by have := HG.out; omega, HBW.out⟩)
        clear hrow hlow hr1
        go_wp2_with fail
        go_loopw [39] (fun iv wx => ∃ (j : Nat), j ≤ l.length ∧ iv = .int .i64 (j : Nat) ∧ (l.take j).all (fun x => mvOk t f dx dy x.p) = true ∧ RowD w wx g c ((l.take j).map (mvE t f dx dy) ++ l.drop j) ∧ wx.heap[sb]? = some (MoB t f dx dy) ∧ Below w.heap.size w wx) (fun iv _ => l.length - (intOf iv).toNat)
        case atStart => exact ⟨0, Nat.zero_le _, rfl, rfl, by simpa using HR0.out.step (by repeat (first | exact Below.refl _ _ | (refine Below.drew ?_) | (refine below_drewN' ?_ _) | (refine below_alloc' ?_ _) | (refine Below.setCell ?_ (by first | exact Nat.le_refl _ | (simp; done) | (simp; omega)) _))), (((by repeat (first | exact Below.refl _ _ | (refine Below.drew ?_) | (refine below_drewN' ?_ _) | (refine below_alloc' ?_ _) | (refine Below.setCell ?_ (by first | exact Nat.le_refl _ | (simp; done) | (simp; omega)) _))) : Below wr.heap.size wr _).block _ (lt_of_block HSB2.out)).trans HSB2.out, below_trans HBW.out (by repeat (first | exact Below.refl _ _ | (refine Below.drew ?_) | (refine below_drewN' ?_ _) | (refine below_alloc' ?_ _) | (refine Below.setCell ?_ (by first | exact Nat.le_refl _ | (simp; done) | (simp; omega)) _)))⟩
        case round =>
          obtain ⟨j, hj, rfl, hmv, hrow, hsbx, hbx⟩ := hrel
          by_cases hlt : j < l.length
          · have h3 : (j : Int) < l.length := by omega
            have h5 : (0 : Int) ≤ (j : Int) := by omega
            have HW := Lib.hid (show wrap64 ((j : Int) + 1) = ((j + 1 : Nat) : Int) by have := HD.out.1; unfold wrap64; omega)
            have hlen : ((l.take j).map (mvE t f dx dy) ++ l.drop j).length = l.length := by simp; omega
            have hel : ((l.take j).map (mvE t f dx dy) ++ l.drop j)[j]'(by omega) = l[j] := by
              rw [List.getElem_append_right (by simp; omega)]
              simp [Nat.min_eq_left (Nat.le_of_lt hlt)]
            obtain ⟨u, k0, ku, k1⟩ := hrow.at' j (by omega)
            rw [hel] at ku
            have s0 : wr.cell? ⟨sb, 0, none⟩ = some (.int .i64 t) := by simp [World.cell?, hsbx]
            have s1 : wr.cell? ⟨sb, 1, none⟩ = some (.bool f) := by simp [World.cell?, hsbx]
            have s2 : wr.cell? ⟨sb, 2, none⟩ = some (.int .i64 dx) := by simp [World.cell?, hsbx]
            have s3 : wr.cell? ⟨sb, 3, none⟩ = some (.int .i64 dy) := by simp [World.cell?, hsbx]
            have hsl := lt_of_block hsbx
            have hsm : Sm2 l[j].p := smB_sm (List.all_eq_true.1 HALL.out l[j] (List.getElem_mem hlt))
            have hl2 : l[j].p.length = 2 := HD.out.2.2.len _ (List.getElem_mem hlt)
            have HMV := Lib.hid (fun w' (hb : Below wr.heap.size wr w') => pmove_any t f dx dy l[j].p u w' HD.out.2.1 (ku.rd.below hb) hsm)
            have HROW := Lib.hid hrow
            obtain ⟨A0, cc, rfl, _⟩ := RdU.point ku.rd
            rw [hl2] at k0 HMV
            have hgl : g < wr.heap.size := World.block_lt_of_cell? wr _ k0
            obtain ⟨mp, hmp⟩ : ∃ p, mvP t f dx dy l[j].p = p := ⟨_, rfl⟩
            obtain ⟨ok, hok⟩ : ∃ b, mvOk t f dx dy l[j].p = b := ⟨_, rfl⟩
            rw [hmp, hok] at HMV
            obtain ⟨cd, hcd⟩ : ∃ z : Int, (if ok = true then (0 : Int) else 11) = z := ⟨_, rfl⟩
            rw [hcd] at HMV
            have HLJ := Lib.hid (show j < ((l.take j).map (mvE t f dx dy) ++ l.drop j).length from by omega)
            have HNX := Lib.hid (moved_set (mvE t f dx dy) l j hlt ⟨mp, (((l.take j).map (mvE t f dx dy) ++ l.drop j)[j]'HLJ.out).v⟩ (by rw [hel, ← hmp]; rfl))
            have HMM := Lib.hid (show (l.take (j + 1)).all (fun x => mvOk t f dx dy x.p) = ok from by rw [← List.take_append_getElem hlt, List.all_append, hmv]; simp [hok])
            have HCD := Lib.hid (And.intro hmp (And.intro hok hcd))
            have HBJ := Lib.hid (Below.refl wr.heap.size wr)
            have HBX := Lib.hid hbx
            clear k1 hmp hok hcd hbx hrow hsm hl2 ku hel hlen
            go_wp2_with fail
            refine wp_region_vals 11 [fun z9 _ => z9 = Mo t f dx dy,
              fun z9 _ => z9 = .slice (some ⟨g, 0, none⟩) l.length c,
              fun z9 _ => z9 = .int .i64 (j : Nat),
              fun z9 _ => z9 = .pointer (some ⟨g, j * 2, none⟩),
              fun z9 _ => z9 = .pointer (some ⟨g, j * 2, none⟩),
              fun z9 _ => z9 = .slice A0 2 cc,
              fun v9 w9 => ∃ v', v9 = .tuple #[v', .int .i64 cd] ∧ (ok = true → PtNew w9 v' mp),
              fun v9 w9 => ∃ v', v9 = .tuple #[v', .int .i64 cd] ∧ (ok = true → PtNew w9 v' mp),
              fun v9 w9 => ok = true → PtNew w9 v9 mp,
              fun z9 _ => z9 = .int .i64 cd,
              fun v9 w9 => ok = true → PtNew w9 v9 mp]
              (by kernel_rfl) (by kernel_rfl) (by kernel_rfl) (by kernel_rfl) ?_ ?_ ?_
            · intro V hV v w1 w2 h hb
              simp only [List.mem_cons, List.not_mem_nil, or_false] at hV
              rcases hV with rfl | rfl | rfl | rfl | rfl | rfl | rfl | rfl | rfl | rfl | rfl
              all_goals first | exact h | (first | (intro hh; exact (h hh).below hb) | (obtain ⟨v', e, h1⟩ := h; exact ⟨v', e, fun hh => (h1 hh).below hb⟩))
            · intro iq oq hiq hoq
              match iq, hiq with
              | 0, _ =>
              obtain rfl := Option.some.inj hoq
              intro a1 w1 K hk hK
              have e3 : a1.tmps.getD 3 undef = .pointer (some ⟨sb, 0, none⟩) := hk.same 3 (by simp)
              have c0 : w1.cell? ⟨sb, 0, none⟩ = some (.int .i64 t) := Below.keeps hk.ext _ _ (by simp [go_sem, h3, h5, k0, s0, s1, s2, s3])
              have c1 : w1.cell? ⟨sb, 1, none⟩ = some (.bool f) := Below.keeps hk.ext _ _ (by simp [go_sem, h3, h5, k0, s0, s1, s2, s3])
              have c2 : w1.cell? ⟨sb, 2, none⟩ = some (.int .i64 dx) := Below.keeps hk.ext _ _ (by simp [go_sem, h3, h5, k0, s0, s1, s2, s3])
              have c3 : w1.cell? ⟨sb, 3, none⟩ = some (.int .i64 dy) := Below.keeps hk.ext _ _ (by simp [go_sem, h3, h5, k0, s0, s1, s2, s3])
              have c4 : w1.cell? ⟨g, j * 2, none⟩ = some (.slice A0 2 cc) := Below.keeps hk.ext _ _ (by simp [go_sem, h3, h5, k0, s0, s1, s2, s3])
              simp [Region.wanted, Oper.wp, Act.eval, go_sem, e3, c0, c1, c2, c3, c4, h3, h5, k0, s0, s1, s2, s3]
              exact hK _ _ (Below.refl _ _) rfl
              | 1, _ =>
              obtain rfl := Option.some.inj hoq
              intro a1 w1 K hk hK
              have e6 : a1.tmps.getD 6 undef = .slice (some ⟨g, 0, none⟩) l.length c := hk.same 6 (by simp)
              simp [Region.wanted, Oper.wp, Act.eval, go_sem, e6, h3, h5, k0, s0, s1, s2, s3]
              exact hK _ _ (Below.refl _ _) rfl
              | 2, _ =>
              obtain rfl := Option.some.inj hoq
              intro a1 w1 K hk hK
              have e9 : a1.tmps.getD 9 undef = .int .i64 (j : Nat) := hk.same 9 (by simp)
              simp [Region.wanted, Oper.wp, Act.eval, go_sem, e9, h3, h5, k0, s0, s1, s2, s3]
              exact hK _ _ (Below.refl _ _) rfl
              | 3, _ =>
              obtain rfl := Option.some.inj hoq
              intro a1 w1 K hk hK
              have d44 : a1.tmps.getD 44 undef = .slice (some ⟨g, 0, none⟩) l.length c := hk.deps ⟨1, .data⟩ (by simp) rfl _ _ rfl rfl
              have d45 : a1.tmps.getD 45 undef = .int .i64 (j : Nat) := hk.deps ⟨2, .data⟩ (by simp) rfl _ _ rfl rfl
              simp [Region.wanted, Oper.wp, Act.eval, go_sem, d44, d45, h3, h5, k0, s0, s1, s2, s3]
              exact hK _ _ (Below.refl _ _) rfl
              | 4, _ =>
              obtain rfl := Option.some.inj hoq
              intro a1 w1 K hk hK
              have d46 : a1.tmps.getD 46 undef = .pointer (some ⟨g, j * 2, none⟩) := hk.deps ⟨3, .data⟩ (by simp) rfl _ _ rfl rfl
              simp [Region.wanted, Oper.wp, Act.eval, go_sem, d46, h3, h5, k0, s0, s1, s2, s3]
              exact hK _ _ (Below.refl _ _) rfl
              | 5, _ =>
              obtain rfl := Option.some.inj hoq
              intro a1 w1 K hk hK
              have d47 : a1.tmps.getD 47 undef = .pointer (some ⟨g, j * 2, none⟩) := hk.deps ⟨4, .data⟩ (by simp) rfl _ _ rfl rfl
              have c0 : w1.cell? ⟨sb, 0, none⟩ = some (.int .i64 t) := Below.keeps hk.ext _ _ (by simp [go_sem, h3, h5, k0, s0, s1, s2, s3])
              have c1 : w1.cell? ⟨sb, 1, none⟩ = some (.bool f) := Below.keeps hk.ext _ _ (by simp [go_sem, h3, h5, k0, s0, s1, s2, s3])
              have c2 : w1.cell? ⟨sb, 2, none⟩ = some (.int .i64 dx) := Below.keeps hk.ext _ _ (by simp [go_sem, h3, h5, k0, s0, s1, s2, s3])
              have c3 : w1.cell? ⟨sb, 3, none⟩ = some (.int .i64 dy) := Below.keeps hk.ext _ _ (by simp [go_sem, h3, h5, k0, s0, s1, s2, s3])
              have c4 : w1.cell? ⟨g, j * 2, none⟩ = some (.slice A0 2 cc) := Below.keeps hk.ext _ _ (by simp [go_sem, h3, h5, k0, s0, s1, s2, s3])
              simp [Region.wanted, Oper.wp, Act.eval, go_sem, d47, c0, c1, c2, c3, c4, h3, h5, k0, s0, s1, s2, s3]
              exact hK _ _ (Below.refl _ _) rfl
              | 6, _ =>
              obtain rfl := Option.some.inj hoq
              intro a1 w1 K hk hK
              have d43 : a1.tmps.getD 43 undef = Mo t f dx dy := hk.deps ⟨0, .data⟩ (by simp) rfl _ _ rfl rfl
              have d48 : a1.tmps.getD 48 undef = .slice A0 2 cc := hk.deps ⟨5, .data⟩ (by simp) rfl _ _ rfl rfl
              simp [Region.wanted, Oper.wp, Act.eval, go_sem, d43, d48, h3, h5, k0, s0, s1, s2, s3]
              refine (HMV.out _ (below_trans (by repeat (first | exact Below.refl _ _ | (refine Below.drew ?_) | (refine below_drewN' ?_ _) | (refine below_alloc' ?_ _) | (refine Below.setCell ?_ (by first | exact Nat.le_refl _ | (simp; done) | (simp; omega)) _))) hk.ext)).mono ?_
              rintro e w9 ⟨v9, rfl, hs9, hb9⟩
              exact hK _ _ hb9 ⟨v9, rfl, hs9⟩
              | 7, _ =>
              obtain rfl := Option.some.inj hoq
              intro a1 w1 K hk hK
              have D49 : ∃ v', (a1.tmps.getD 49 undef) = .tuple #[v', .int .i64 cd] ∧ (ok = true → PtNew w1 v' mp) := hk.deps ⟨6, .data⟩ (by simp) rfl _ _ rfl rfl
              obtain ⟨v9, e9, hs9⟩ := D49
              have e9x : a1.tmps[49]?.getD undef = .tuple #[v9, .int .i64 cd] := by rw [← e9]; simp
              simp [Region.wanted, Oper.wp, Act.eval, go_sem, e9, e9x]
              exact hK _ _ (Below.refl _ _) ⟨v9, rfl, hs9⟩
              | 8, _ =>
              obtain rfl := Option.some.inj hoq
              intro a1 w1 K hk hK
              have D42 : ∃ v', (a1.tmps.getD 42 undef) = .tuple #[v', .int .i64 cd] ∧ (ok = true → PtNew w1 v' mp) := hk.deps ⟨7, .data⟩ (by simp) rfl _ _ rfl rfl
              obtain ⟨v9, e9, hs9⟩ := D42
              have e9x : a1.tmps[42]?.getD undef = .tuple #[v9, .int .i64 cd] := by rw [← e9]; simp
              simp [Region.wanted, Oper.wp, Act.eval, go_sem, e9, e9x]
              exact hK _ _ (Below.refl _ _) hs9
              | 9, _ =>
              obtain rfl := Option.some.inj hoq
              intro a1 w1 K hk hK
              have D42 : ∃ v', (a1.tmps.getD 42 undef) = .tuple #[v', .int .i64 cd] ∧ (ok = true → PtNew w1 v' mp) := hk.deps ⟨7, .data⟩ (by simp) rfl _ _ rfl rfl
              obtain ⟨v9, e9, hs9⟩ := D42
              have e9x : a1.tmps[42]?.getD undef = .tuple #[v9, .int .i64 cd] := by rw [← e9]; simp
              simp [Region.wanted, Oper.wp, Act.eval, go_sem, e9, e9x]
              exact hK _ _ (Below.refl _ _) rfl
              | 10, _ =>
              obtain rfl := Option.some.inj hoq
              intro a1 w1 K hk hK
              have D50 : ok = true → PtNew w1 (a1.tmps.getD 50 undef) mp := hk.deps ⟨8, .data⟩ (by simp) rfl _ _ rfl rfl
              have hs9 := D50
              simp [Region.wanted, Oper.wp, Act.eval, go_sem]
              exact hK _ _ (Below.refl _ _) (show ok = true → PtNew w1 _ mp from by simpa using hs9)
            · intro vs w3 hl hb3 hv
              match vs, hl with
              | [v0, v1, v2, v3, v4, v5, v6, v7, v8, v9, v10], _ =>
              obtain rfl : v0 = Mo t f dx dy := hv 0 (by omega)
              obtain rfl : v1 = .slice (some ⟨g, 0, none⟩) l.length c := hv 1 (by omega)
              obtain rfl : v2 = .int .i64 (j : Nat) := hv 2 (by omega)
              obtain rfl : v3 = .pointer (some ⟨g, j * 2, none⟩) := hv 3 (by omega)
              obtain rfl : v4 = .pointer (some ⟨g, j * 2, none⟩) := hv 4 (by omega)
              obtain rfl : v5 = .slice A0 2 cc := hv 5 (by omega)
              have q6 : ∃ v', v6 = .tuple #[v', .int .i64 cd] ∧ (ok = true → PtNew w3 v' mp) := hv 6 (by omega)
              have q7 : ∃ v', v7 = .tuple #[v', .int .i64 cd] ∧ (ok = true → PtNew w3 v' mp) := hv 7 (by omega)
              have q8 : ok = true → PtNew w3 v8 mp := hv 8 (by omega)
              obtain rfl : v9 = .int .i64 cd := hv 9 (by omega)
              have q10 : ok = true → PtNew w3 v10 mp := hv 10 (by omega)
              clear hv
              simp only [putAll, List.take_succ_cons, List.take_zero, List.drop_succ_cons, List.drop_zero, Act.put, List.setIfInBounds_toArray, List.set_cons_succ, List.set_cons_zero]
              have HR3 := Lib.hid (HROW.out.step hb3)
              have HB9 := Lib.hid (HBX.out.trans (hb3.mono HBX.out.size))
              have HSX := Lib.hid ((hb3.block _ hsl).trans hsbx)
              have k09 := Below.keeps hb3 _ _ k0
              clear hb3
              cases ok with
              | false =>
                have HF := Lib.hid (show l.all (fun x => mvOk t f dx dy x.p) = false from List.all_eq_false.2 ⟨l[j], List.getElem_mem hlt, by simp [HCD.out.2.1]⟩)
                obtain rfl : cd = 11 := by have := HCD.out.2.2; simp at this; omega
                clear q6 q7 q8 q10
                go_wp2_with fail
                go_ret2
                refine ⟨below_trans HB9.out (by repeat (first | exact Below.refl _ _ | (refine Below.drew ?_) | (refine below_drewN' ?_ _) | (refine below_alloc' ?_ _) | (refine Below.setCell ?_ (by first | exact Nat.le_refl _ | (simp; done) | (simp; omega)) _))), ?_⟩
                rw [HALL.out, HF.out]
                rfl
              | true =>
                obtain rfl : cd = 0 := by have := HCD.out.2.2; simp at this; omega
                have HP := Lib.hid (q10 rfl)
                obtain ⟨Aq, cq, rfl, _⟩ := RdU.point (q10 rfl).rd
                have hfr := HR3.out.thaw (j * 2)
                have hgl9 := HR3.out.lt
                clear q6 q7 q8 q10
                go_wp2_with fail
                go_roundw
                case rel =>
                  refine ⟨j + 1, by omega, (by first | rw [HW.out] | rfl | simp), HMM.out, ?_, ?_, ?_⟩
                  · have h9 := HR3.out.setP HLJ.out HP.out
                    rw [HNX.out] at h9
                    exact h9.step (by repeat (first | exact Below.refl _ _ | (refine Below.drew ?_) | (refine below_drewN' ?_ _) | (refine below_alloc' ?_ _) | (refine Below.setCell ?_ (by first | exact Nat.le_refl _ | (simp; done) | (simp; omega)) _)))
                  · have h9 : g ≠ sb := by have := HG.out; omega
                    exact (Below.heap_setCell _ _ _ _ (fun e => h9 (show g = sb from (show sb = g from e).symm))).trans HSX.out
                  · exact HB9.out.setCell (show w.heap.size ≤ g by have := HG.out; omega) _
                case measure => (first | (rw [intOf_of' HW.out, intOf_of' rfl]; omega) | (simp [intOf]; omega) | (simp [intOf] <;> omega))
          · have h3 : ¬ (j : Int) < (l.length : Int) := by omega
            have e : l.take j = l := List.take_of_length_le (by omega)
            have e2 : l.drop j = [] := List.drop_of_length_le (by omega)
            rw [e] at hmv
            rw [e, e2, List.append_nil] at hrow
            have hmk := make_any 1000 sort_any wr 2 (l.map (mvE t f dx dy)) _ hrow.rd (by rw [List.length_map]; exact HD.out.1) (by rw [List.length_map]; exact HD.out.1) (by decide) (by decide) (fun e he => by
              obtain ⟨x, hx, rfl⟩ := List.mem_map.1 he
              obtain ⟨a, b, e1, e2, e3⟩ := mvP_ok (List.all_eq_true.1 hmv x hx)
              show (mvP t f dx dy x.p).length = 2 ∧ ∀ q ∈ mvP t f dx dy x.p, q < 2 ^ 64
              rw [e1]
              exact ⟨rfl, fun q hq => by simp at hq; omega⟩) (fun e he => by
              obtain ⟨x, hx, rfl⟩ := List.mem_map.1 he
              exact HVL.out x hx)
            rw [List.length_map, show ((2 : Nat) : Int) = 2 from rfl] at hmk
            have HMK := Lib.hid hmk
            have HMV := Lib.hid hmv
            have HBX := Lib.hid hbx
            clear hmk hmv hbx hrow hsbx e e2
            go_wp2_with fail
            refine (HMK.out).mono ?_
            rintro e w5 ⟨tt, rfl, htt, hb5⟩
            have HF := Lib.hid (And.intro htt (HBX.out.trans (hb5.mono HBX.out.size)))
            clear htt hb5
            go_wp2_with fail
            go_ret2
            refine ⟨HF.out.2, ?_⟩
            rw [HALL.out, HMV.out]
            exact ⟨tt, rfl, HF.out.1⟩
end Go.Proofs.YtjokcagggmjgmaaGreat
/-! MovesPure -/
namespace Go.Proofs.YtjokcagggmjgmaaGreat.Pl

theorem back_right {t x y : Int} (f : Bool) (h : rightB t x y = true) : rightB (backT t f) (backX t f x y) (backY t f x y) = true := by
  have hR := rightB_iff.1 h
  refine rightB_iff.2 ?_
  unfold backX backY
  have hb := turn_bound (f := f) (t := backT t f) (x := x) (y := y) (B := 2097152) (by unfold backT; split <;> omega) (by unfold backT; split <;> omega) (by omega) (by omega)
  refine ⟨by unfold backT; split <;> omega, by unfold backT; split <;> omega, by omega, by omega, by omega, by omega⟩

/-- moved back it is as it was -/
theorem back_move {t x y : Int} (f : Bool) (h0 : 0 ≤ t) (h3 : t ≤ 3) (a b : Int) :
    turnX (backT t f) f (turnX t f a b + x) (turnY t f a b + y) + backX t f x y = a ∧ turnY (backT t f) f (turnX t f a b + x) (turnY t f a b + y) + backY t f x y = b := by
  rcases four h0 h3 with rfl | rfl | rfl | rfl <;> cases f <;> simp [backX, backY, turnX, turnY, rotX, rotY, flipY, backT] <;> omega

theorem coordB_iff {z : Int} : coordB z = true ↔ 0 ≤ z ∧ z < 1048576 := by unfold coordB; exact decide_eq_true_iff

end Go.Proofs.YtjokcagggmjgmaaGreat.Pl
/-! PlnP -/
namespace Go.Proofs.YtjokcagggmjgmaaGreat
open Go.RowKit
set_option linter.unusedVariables false
set_option linter.unusedSimpArgs false

/-- entries with no two unlike ones under one key: put one after the other they are the same ones -/
theorem puts_set {k : Nat} {l : List En} (hl : ∀ e ∈ l, e.p.length = k ∧ ∀ x ∈ e.p, x < 2 ^ 64) (hd : ∀ x ∈ l, ∀ y ∈ l, x.key = y.key → x = y) (e : En) : e ∈ putsL [] l ↔ e ∈ l := by
  refine ⟨fun h => ?_, fun h => ?_⟩
  · rcases puts_mem (Et.nil k) hl e h with h | h
    · cases h
    · exact h
  · have h1 := puts_look (Et.nil k) hl e.key
    have hm : e ∈ l.filter (fun x => x.key == e.key) := List.mem_filter.2 ⟨h, by simp⟩
    cases hg : (l.filter fun x => x.key == e.key).getLast? with
    | none =>
      rw [List.getLast?_eq_none_iff] at hg
      rw [hg] at hm; cases hm
    | some y =>
      rw [hg] at h1
      have hy := List.mem_of_getLast? hg
      rw [List.mem_filter] at hy
      have : y = e := hd y hy.1 e h (by simpa using hy.2)
      subst this
      exact (Od.look_some h1).1
theorem asc_eq {l m : List En} (hl : Od.Asc En.key l) (hm : Od.Asc En.key m) (h : ∀ e, e ∈ l ↔ e ∈ m) : l = m := by
  refine Od.ext hl hm fun n => ?_
  cases hn : Od.look En.key l n with
  | some x =>
    obtain ⟨h1, rfl⟩ := Od.look_some hn
    exact (Od.look_mem hm ((h x).1 h1)).symm
  | none =>
    exact (Od.look_eq_none fun x hx => Od.look_none hn x ((h x).2 hx)).symm
theorem Sm2.ok {p : List Nat} (h : Sm2 p) : p.length = 2 ∧ ∀ x ∈ p, x < 2 ^ 64 := by
  obtain ⟨a, b, rfl, h1, h2⟩ := h
  exact ⟨rfl, fun q hq => by simp at hq; omega⟩
theorem mvP_back {t dx dy : Int} {f : Bool} {p : List Nat} (hr : Pl.rightB t dx dy = true) (hp : Sm2 p) (h : mvOk t f dx dy p = true) :
    mvOk (Pl.backT t f) f (Pl.backX t f dx dy) (Pl.backY t f dx dy) (mvP t f dx dy p) = true ∧ mvP (Pl.backT t f) f (Pl.backX t f dx dy) (Pl.backY t f dx dy) (mvP t f dx dy p) = p := by
  obtain ⟨a, b, rfl, ha, hb⟩ := hp
  have hR := Pl.rightB_iff.1 hr
  obtain ⟨e1, e2⟩ := Pl.back_move (x := dx) (y := dy) f hR.1 hR.2.1 (a : Nat) (b : Nat)
  simp only [mvOk, Bool.and_eq_true, Pl.coordB, decide_eq_true_iff] at h
  have w1 : (((Pl.turnX t f a b + dx).toNat : Nat) : Int) = Pl.turnX t f a b + dx := Int.toNat_of_nonneg (by omega)
  have w2 : (((Pl.turnY t f a b + dy).toNat : Nat) : Int) = Pl.turnY t f a b + dy := Int.toNat_of_nonneg (by omega)
  simp only [mvOk, mvP]
  rw [w1, w2, e1, e2]
  refine ⟨?_, by simp⟩
  rw [Bool.and_eq_true, Pl.coordB_iff, Pl.coordB_iff]
  omega
section
variable {t dx dy : Int} {f : Bool} {l : List En}
theorem mv_key (hr : Pl.rightB t dx dy = true) (hl : Et 2 l) (hs : ∀ e ∈ l, Sm2 e.p) (hm : ∀ e ∈ l, mvOk t f dx dy e.p = true) : ∀ x ∈ l.map (mvE t f dx dy), ∀ y ∈ l.map (mvE t f dx dy), x.key = y.key → x = y := by
  intro x hx y hy h
  obtain ⟨a, ha, rfl⟩ := List.mem_map.1 hx
  obtain ⟨b, hb, rfl⟩ := List.mem_map.1 hy
  have sa := (mvP_ok (hm a ha)).ok
  have sb := (mvP_ok (hm b hb)).ok
  have h1 : mvP t f dx dy a.p = mvP t f dx dy b.p := key_inj' (sa.1.trans sb.1.symm) sa.2 sb.2 h
  have h2 : a.p = b.p := by rw [← (mvP_back hr (hs a ha) (hm a ha)).2, h1, (mvP_back hr (hs b hb) (hm b hb)).2]
  have h3 : a = b := by
    have e1 := Od.look_mem hl.asc ha
    have e2 := Od.look_mem hl.asc hb
    have : a.key = b.key := by unfold En.key; rw [h2]
    rw [this, e2] at e1
    exact (Option.some.inj e1).symm
  rw [h3]
theorem mv_sm (hm : ∀ e ∈ l, mvOk t f dx dy e.p = true) : ∀ e ∈ l.map (mvE t f dx dy), e.p.length = 2 ∧ ∀ x ∈ e.p, x < 2 ^ 64 := fun e he => by
  obtain ⟨x, hx, rfl⟩ := List.mem_map.1 he
  exact (mvP_ok (hm x hx)).ok
theorem mv_mem (hr : Pl.rightB t dx dy = true) (hl : Et 2 l) (hs : ∀ e ∈ l, Sm2 e.p) (hm : ∀ e ∈ l, mvOk t f dx dy e.p = true) (e : En) : e ∈ putsL [] (l.map (mvE t f dx dy)) ↔ ∃ x ∈ l, mvE t f dx dy x = e := by
  rw [puts_set (mv_sm hm) (mv_key hr hl hs hm), List.mem_map]
theorem mv_all (hr : Pl.rightB t dx dy = true) (hl : Et 2 l) (hs : ∀ e ∈ l, Sm2 e.p) (hm : ∀ e ∈ l, mvOk t f dx dy e.p = true) : ∀ e ∈ putsL [] (l.map (mvE t f dx dy)), Sm2 e.p ∧ mvOk (Pl.backT t f) f (Pl.backX t f dx dy) (Pl.backY t f dx dy) e.p = true := fun e he => by
  obtain ⟨x, hx, rfl⟩ := (mv_mem hr hl hs hm e).1 he
  exact ⟨mvP_ok (hm x hx), (mvP_back hr (hs x hx) (hm x hx)).1⟩
theorem mv_ets (hl : EtS 2 l) (hm : ∀ e ∈ l, mvOk t f dx dy e.p = true) : EtS 2 (putsL [] (l.map (mvE t f dx dy))) :=
  ⟨(Et.nil 2).puts (mv_sm hm), by omega, Nat.le_trans (puts_len _ _) (by rw [List.length_nil, List.length_map]; have := hl.short; omega)⟩
/-- moved, and back: as it was -/
theorem mv_back (hr : Pl.rightB t dx dy = true) (hl : Et 2 l) (hs : ∀ e ∈ l, Sm2 e.p) (hm : ∀ e ∈ l, mvOk t f dx dy e.p = true) :
    putsL [] ((putsL [] (l.map (mvE t f dx dy))).map (mvE (Pl.backT t f) f (Pl.backX t f dx dy) (Pl.backY t f dx dy))) = l := by
  have hA := mv_all hr hl hs hm
  have hm2 : Et 2 (putsL [] (l.map (mvE t f dx dy))) := (Et.nil 2).puts (mv_sm hm)
  have hb := Pl.back_right f hr
  have h1 := mv_mem hb hm2 (fun e he => (hA e he).1) (fun e he => (hA e he).2)
  refine asc_eq ((Et.nil 2).puts (mv_sm fun e he => (hA e he).2)).asc hl.asc fun e => ?_
  rw [h1]
  refine ⟨?_, fun he => ?_⟩
  · rintro ⟨x, hx, rfl⟩
    obtain ⟨y, hy, rfl⟩ := (mv_mem hr hl hs hm x).1 hx
    have : mvE (Pl.backT t f) f (Pl.backX t f dx dy) (Pl.backY t f dx dy) (mvE t f dx dy y) = y := by
      show En.mk _ _ = y
      have h2 := (mvP_back hr (hs y hy) (hm y hy)).2
      show En.mk (mvP _ _ _ _ (mvP t f dx dy y.p)) y.v = y
      rw [h2]
    rw [this]; exact hy
  · refine ⟨mvE t f dx dy e, (mv_mem hr hl hs hm _).2 ⟨e, he, rfl⟩, ?_⟩
    show En.mk (mvP _ _ _ _ (mvP t f dx dy e.p)) e.v = e
    rw [(mvP_back hr (hs e he) (hm e he)).2]
end
end Go.Proofs.YtjokcagggmjgmaaGreat
/-! MakC -/
namespace Go.Proofs.YtjokcagggmjgmaaGreat
open Go.RowKit
set_option linter.unusedVariables false
set_option linter.unusedSimpArgs false
set_option maxRecDepth 100000

end Go.Proofs.YtjokcagggmjgmaaGreat
/-! HvyE -/
namespace Go.Proofs.YtjokcagggmjgmaaGreat
open Go.RowKit
set_option linter.unusedVariables false
set_option linter.unusedSimpArgs false
set_option maxRecDepth 100000

end Go.Proofs.YtjokcagggmjgmaaGreat
/-! OpenE -/
namespace Go.Proofs.YtjokcagggmjgmaaGreat
open Go.RowKit Go.ChangeShapes Go.WideShapes Go.Deep
set_option linter.unusedVariables false

/-- an entry's numbers, whatever its point's length -/
def En.OkV (a : En) : Prop := (∀ c ∈ a.p, c < 2 ^ 64) ∧ a.v < 2 ^ 64
end Go.Proofs.YtjokcagggmjgmaaGreat
/-! LawMakes -/
namespace Go.Proofs.YtjokcagggmjgmaaGreat
open Go.RowKit
set_option linter.unusedVariables false
set_option linter.unusedSimpArgs false
set_option maxRecDepth 100000

end Go.Proofs.YtjokcagggmjgmaaGreat
/-! DifP -/
namespace Go.Proofs.YtjokcagggmjgmaaGreat
open Go.RowKit
set_option linter.unusedVariables false

/-- all of the first two lie ahead of all of the other two -/
def Ahead (a b : List En) : Prop := ∀ x ∈ a, ∀ y ∈ b, x.key < y.key
theorem Et.app {k : Nat} {a b : List En} (ha : Et k a) (hb : Et k b) (h : Ahead a b) : Et k (a ++ b) :=
  ⟨List.pairwise_append.2 ⟨ha.asc, hb.asc, h⟩, fun e he => (List.mem_append.1 he).elim (ha.len e) (hb.len e), fun e he => (List.mem_append.1 he).elim (ha.ok e) (hb.ok e)⟩
end Go.Proofs.YtjokcagggmjgmaaGreat
/-! DifA -/
namespace Go.Proofs.YtjokcagggmjgmaaGreat
open Go.RowKit
set_option linter.unusedVariables false
set_option linter.unusedSimpArgs false
set_option maxRecDepth 100000

/-- what lies in blocks stays, but for one block and the rows of changes -/
structure Kp (B : Nat) (w w' : World) : Prop where
  size : w.heap.size ≤ w'.heap.size
  keep : ∀ b cur t fr, w.heap[b]? = some (.cells cur t fr) → b ≠ B → t ≠ 83 → w'.heap[b]? = some (.cells cur t fr)
theorem Kp.refl (B : Nat) (w : World) : Kp B w w := ⟨Nat.le_refl _, fun b cur t fr h _ _ => h⟩
theorem Kp.trans {B : Nat} {w w' w'' : World} (h : Kp B w w') (g : Kp B w' w'') : Kp B w w'' := ⟨Nat.le_trans h.size g.size, fun b cur t fr q1 q2 q3 => g.keep b cur t fr (h.keep b cur t fr q1 q2 q3) q2 q3⟩
theorem Kp.of {B : Nat} {w w' : World} (h : Below w.heap.size w w') : Kp B w w' := ⟨h.size, fun b cur t fr q1 _ _ => (h.block b (lt_of_block q1)).trans q1⟩
theorem InvT.blkB {W w : World} {B : Nat} {o : List Ch} (h : InvT W B o w) : ∃ vo, w.heap[B]? = some (.cells #[vo] 23 (0, 0)) := let ⟨vo, h1, _⟩ := h; ⟨vo, h1⟩
theorem InvT.step {W w w' : World} {B : Nat} {o : List Ch} (h : InvT W B o w) (hb : Below w.heap.size w w') : InvT W B o w' := h.below (let ⟨_, h1⟩ := h.blkB; lt_of_block h1) hb
end Go.Proofs.YtjokcagggmjgmaaGreat
/-! DifB -/
namespace Go.Proofs.YtjokcagggmjgmaaGreat
open Go.RowKit
set_option linter.unusedVariables false
set_option linter.unusedSimpArgs false
set_option maxRecDepth 100000

end Go.Proofs.YtjokcagggmjgmaaGreat
/-! DifQ -/
namespace Go.Proofs.YtjokcagggmjgmaaGreat
open Go.RowKit
set_option linter.unusedVariables false

/-- all lie below one address of one node -/
structure Below1 (k n : Nat) (pre : List Nat) (a : Nat) (l : List En) : Prop where
  et : Et k l
  n64 : n < 64
  pre : ∀ e ∈ l, Zb.cutN e.p (n + 1) = pre
  adr : ∀ e ∈ l, Zb.addr e.p n = a
theorem Below1.nil (k n : Nat) (pre : List Nat) (a : Nat) (hn : n < 64) : Below1 k n pre a [] := ⟨Et.nil k, hn, fun e he => (by cases he), fun e he => (by cases he)⟩
theorem Below1.ahead {k n a b : Nat} {pre : List Nat} {l m : List En} (h : Below1 k n pre a l) (g : Below1 k n pre b m) (hab : a < b) : Ahead l m := fun x hx y hy => by
  refine pkey_lt (by rw [h.et.len x hx, g.et.len y hy]) h.n64 ?_ (by rw [h.adr x hx, g.adr y hy]; exact hab)
  exact (Zb.cut_agree (by rw [h.et.len x hx, g.et.len y hy]) (h.et.ok x hx) (g.et.ok y hy) _).1 (by rw [h.pre x hx, g.pre y hy])
theorem ahead_cat {A : List (Nat × List En)} {l : List En} (h : ∀ x ∈ A, Ahead l x.2) : Ahead l (cat A) := fun e he f hf => by
  obtain ⟨x, hx, hf⟩ := mem_cat.1 hf
  exact h x hx e he f hf
/-- kids, but two at least are not asked for -/
structure Kz (k n : Nat) (pre : List Nat) (ks : List (Nat × List En)) : Prop where
  asc : Od.Asc ka ks
  bel : ∀ x ∈ ks, Below1 k n pre x.1 x.2
theorem Kz.take {k n : Nat} {pre : List Nat} {ks : List (Nat × List En)} (h : Kz k n pre ks) (i : Nat) : Kz k n pre (ks.take i) := ⟨List.Pairwise.sublist (List.take_sublist i ks) h.asc, fun x hx => h.bel x (List.mem_of_mem_take hx)⟩
theorem Kz.tail {k n : Nat} {pre : List Nat} {x : Nat × List En} {ks : List (Nat × List En)} (h : Kz k n pre (x :: ks)) : Kz k n pre ks := ⟨h.asc.tail, fun y hy => h.bel y (by simp [hy])⟩
theorem Kz.et {k n : Nat} {pre : List Nat} {ks : List (Nat × List En)} (h : Kz k n pre ks) : Et k (cat ks) := by
  induction ks with
  | nil => exact Et.nil k
  | cons x ks ih =>
    have e1 : cat (x :: ks) = x.2 ++ cat ks := by unfold cat; rw [List.flatMap_cons]
    rw [e1]
    exact (h.bel x (by simp)).et.app (ih h.tail) (ahead_cat fun y hy => (h.bel x (by simp)).ahead (h.bel y (by simp [hy])) (h.asc.head y hy))
end Go.Proofs.YtjokcagggmjgmaaGreat
/-! DifC -/
namespace Go.Proofs.YtjokcagggmjgmaaGreat
open Go.RowKit
set_option linter.unusedVariables false
set_option linter.unusedSimpArgs false
set_option maxRecDepth 100000

end Go.Proofs.YtjokcagggmjgmaaGreat
/-! DifD -/
namespace Go.Proofs.YtjokcagggmjgmaaGreat
open Go.RowKit
set_option linter.unusedVariables false
set_option linter.unusedSimpArgs false
set_option maxRecDepth 100000

/-- at the label: so many kids of both are done -/
structure EvI (W : World) (B k n : Nat) (pre : List Nat) (ka kb' : List (Nat × Nat × List En)) (d : List Ch) (w1 w' : World) (t i j : Nat) : Prop where
  inv : InvT W B (d ++ changesL (cat ((ka.map kl).take i)) (cat ((kb'.map kl).take j))) w'
  kp : Kp B w1 w'
  il : i ≤ ka.length
  jl : j ≤ kb'.length
  a1 : ∀ q (h : q < ka.length), q < i → ka[q].1 < t
  a2 : ∀ q (h : q < ka.length), i ≤ q → t ≤ ka[q].1
  b1 : ∀ q (h : q < kb'.length), q < j → kb'[q].1 < t
  b2 : ∀ q (h : q < kb'.length), j ≤ q → t ≤ kb'[q].1
theorem EvI.bel {W : World} {B k n : Nat} {pre : List Nat} {ka kb' : List (Nat × Nat × List En)} {d : List Ch} {w1 w' w'' : World} {t i j : Nat} (h : EvI W B k n pre ka kb' d w1 w' t i j) (hb : Below w'.heap.size w' w'') : EvI W B k n pre ka kb' d w1 w'' t i j :=
  ⟨h.inv.step hb, h.kp.trans (Kp.of hb), h.il, h.jl, h.a1, h.a2, h.b1, h.b2⟩
section
variable {W : World} {B k n : Nat} {pre : List Nat} {ka kb' : List (Nat × Nat × List En)} {d : List Ch} {w1 w' w'' : World} {t i j : Nat}
end
end Go.Proofs.YtjokcagggmjgmaaGreat
/-! DifE -/
namespace Go.Proofs.YtjokcagggmjgmaaGreat
open Go.RowKit
set_option linter.unusedVariables false
set_option linter.unusedSimpArgs false
set_option maxRecDepth 100000

end Go.Proofs.YtjokcagggmjgmaaGreat
/-! DifF -/
namespace Go.Proofs.YtjokcagggmjgmaaGreat
open Go.RowKit
set_option linter.unusedVariables false
set_option linter.unusedSimpArgs false
set_option maxRecDepth 100000

end Go.Proofs.YtjokcagggmjgmaaGreat
/-! NdU -/
namespace Go.Proofs.YtjokcagggmjgmaaGreat
open Go.RowKit
set_option linter.unusedVariables false

end Go.Proofs.YtjokcagggmjgmaaGreat
/-! DifG -/
namespace Go.Proofs.YtjokcagggmjgmaaGreat
open Go.RowKit
set_option linter.unusedVariables false
set_option linter.unusedSimpArgs false
set_option maxRecDepth 100000

end Go.Proofs.YtjokcagggmjgmaaGreat
/-! Pause -/
namespace Go.Proofs.YtjokcagggmjgmaaGreat
open Go.RowKit
set_option linter.unusedVariables false

end Go.Proofs.YtjokcagggmjgmaaGreat
/-! DifI -/
namespace Go.Proofs.YtjokcagggmjgmaaGreat
open Go.RowKit
set_option linter.unusedVariables false
set_option linter.unusedSimpArgs false
set_option maxRecDepth 100000

end Go.Proofs.YtjokcagggmjgmaaGreat
/-! DifS -/
namespace Go.Proofs.YtjokcagggmjgmaaGreat
open Go.RowKit
set_option linter.unusedVariables false
set_option linter.unusedSimpArgs false
set_option maxRecDepth 100000

end Go.Proofs.YtjokcagggmjgmaaGreat
/-! DifH -/
namespace Go.Proofs.YtjokcagggmjgmaaGreat
open Go.RowKit
set_option linter.unusedVariables false
set_option linter.unusedSimpArgs false
set_option maxRecDepth 100000

end Go.Proofs.YtjokcagggmjgmaaGreat
/-! DifJ -/
namespace Go.Proofs.YtjokcagggmjgmaaGreat
open Go.RowKit
set_option linter.unusedVariables false
set_option linter.unusedSimpArgs false
set_option maxRecDepth 100000

end Go.Proofs.YtjokcagggmjgmaaGreat
/-! DifM -/
namespace Go.Proofs.YtjokcagggmjgmaaGreat
open Go.RowKit
set_option linter.unusedVariables false
set_option linter.unusedSimpArgs false
set_option maxRecDepth 100000

end Go.Proofs.YtjokcagggmjgmaaGreat
/-! DifL -/
namespace Go.Proofs.YtjokcagggmjgmaaGreat
open Go.RowKit
set_option linter.unusedVariables false
set_option linter.unusedSimpArgs false
set_option maxRecDepth 100000

end Go.Proofs.YtjokcagggmjgmaaGreat
/-! DifN -/
namespace Go.Proofs.YtjokcagggmjgmaaGreat
open Go.RowKit
set_option linter.unusedVariables false
set_option linter.unusedSimpArgs false
set_option maxRecDepth 100000

end Go.Proofs.YtjokcagggmjgmaaGreat
/-! LawTurns -/
namespace Go.Proofs.YtjokcagggmjgmaaGreat
open Go.RowKit
set_option linter.unusedVariables false
set_option linter.unusedSimpArgs false
set_option maxRecDepth 100000

end Go.Proofs.YtjokcagggmjgmaaGreat
/-! LawTrees -/
namespace Go.Proofs.YtjokcagggmjgmaaGreat
open Go.RowKit
set_option linter.unusedVariables false
set_option linter.unusedSimpArgs false
set_option maxRecDepth 100000

theorem awake27 (w : World) : Calls Tryz.prog 43 #[] w fun e w' => e = .returned (.bool true) ∧ Below w.heap.size w w' := by
  go_enter Tryz.func43, Tryz.ntmps43
  go_wp2_with fail
  refine (Move_any 1 false 9 0 _ [2, 3] _ (RdU.two (by go_simp) (by go_simp)) (by simp)).mono ?_
  rintro e w1 ⟨v', rfl, hv, hb⟩
  have em : Pl.moveR 1 false 9 0 [2, 3] = ([6, 2], 0) := by decide
  rw [em] at hv
  rw [em]
  have hb1 : Below w.heap.size w w1 := below_trans (by repeat (first | exact Below.refl _ _ | (refine Below.drew ?_) | (refine below_drewN' ?_ _) | (refine below_alloc' ?_ _) | (refine Below.setCell ?_ (by first | exact Nat.le_refl _ | (simp; done) | (simp; omega)) _))) hb
  clear em hb
  go_wp2_with fail
  refine (Same_any _ _ [6, 2] [6, 2] _ (RdU.below hv (by repeat (first | exact Below.refl _ _ | (refine Below.drew ?_) | (refine below_drewN' ?_ _) | (refine below_alloc' ?_ _) | (refine Below.setCell ?_ (by first | exact Nat.le_refl _ | (simp; done) | (simp; omega)) _)))) (RdU.two (by go_simp) (by go_simp)) (by simp)).mono ?_
  rintro e w2 ⟨rfl, n, rfl⟩
  go_wp2_with fail
  go_ret
  exact ⟨rfl, below_drewN' (below_trans hb1 (by repeat (first | exact Below.refl _ _ | (refine Below.drew ?_) | (refine below_drewN' ?_ _) | (refine below_alloc' ?_ _) | (refine Below.setCell ?_ (by first | exact Nat.le_refl _ | (simp; done) | (simp; omega)) _)))) _⟩
theorem mo_keep {w w' : World} {b : Nat} {o : Obj} (h : w.heap[b]? = some o) (hb : Below w.heap.size w w') : w'.heap[b]? = some o := (hb.block _ (lt_of_block h)).trans h
theorem mo_cells {w : World} {b : Nat} {t x y : Int} {f : Bool} (h : w.heap[b]? = some (MoB t f x y)) : w.cell? ⟨b, 0, none⟩ = some (.int .i64 t) ∧ w.cell? ⟨b, 1, none⟩ = some (.bool f) ∧ w.cell? ⟨b, 2, none⟩ = some (.int .i64 x) ∧ w.cell? ⟨b, 3, none⟩ = some (.int .i64 y) := by
  simp [World.cell?, h]
theorem small_smB {p : List Nat} (h : p.length = 2) : Pl.smallB (pti p) = smB p := by
  obtain ⟨a, b, rfl⟩ : ∃ a b, p = [a, b] := by
    match p, h with
    | [a, b], _ => exact ⟨a, b, rfl⟩
  show decide ((a : Int) < 1048576 ∧ (b : Int) < 1048576) = decide (max a b < 1048576)
  congr 1
  apply propext
  omega
theorem sm_smB {p : List Nat} (h : Sm2 p) : smB p = true := by
  obtain ⟨a, b, rfl, h1, h2⟩ := h
  show decide (max a b < 1048576) = true
  rw [decide_eq_true_iff]
  omega
theorem heavyA_ok7 {l : List Ac} {most : Nat} (h : heavyL l most = false) : l.length ≤ most ∧ ∀ a ∈ l, a.p.length ≤ 40 := by
  unfold heavyL at h
  rw [Bool.or_eq_false_iff] at h
  refine ⟨by have := of_decide_eq_false h.1; omega, fun a ha => ?_⟩
  have := List.any_eq_false.1 h.2 a ha
  simp at this
  omega
/-- what plane.Tree hands back, for the law -/
def QTr (t : Int) (f : Bool) (dx dy : Int) (l : List En) (qu : Option Addr) (ec : Int) (w' : World) : Prop :=
  (l.all (fun x => smB x.p) = false → qu = none ∧ ec = 3) ∧
  (l.all (fun x => smB x.p) = true → l.all (fun x => mvOk t f dx dy x.p) = false → qu = none ∧ ec = 11) ∧
  (l.all (fun x => smB x.p) = true → l.all (fun x => mvOk t f dx dy x.p) = true → ec = 0 ∧ ∃ g, qu = some ⟨g, 0, none⟩ ∧ TrR w' g 2 (putsL [] (l.map (mvE t f dx dy))))
theorem ptr_q {t : Int} {f : Bool} {dx dy : Int} {W w' : World} {l : List En} {e : Ending} (h : PTrP t f dx dy W l e w') : ∃ qu ec, e = .returned (.tuple #[.pointer qu, .int .i64 ec]) ∧ QTr t f dx dy l qu ec w' ∧ Below W.heap.size W w' := by
  obtain ⟨hb, h⟩ := h
  cases h1 : l.all (fun x => smB x.p) with
  | false =>
    rw [h1] at h
    exact ⟨_, _, h, ⟨fun _ => ⟨rfl, rfl⟩, (fun h => by rw [h1] at h; cases h), (fun h => by rw [h1] at h; cases h)⟩, hb⟩
  | true =>
    cases h2 : l.all (fun x => mvOk t f dx dy x.p) with
    | false =>
      rw [h1, h2] at h
      exact ⟨_, _, h, ⟨(fun h => by rw [h1] at h; cases h), fun _ _ => ⟨rfl, rfl⟩, (fun _ h => by rw [h2] at h; cases h)⟩, hb⟩
    | true =>
      rw [h1, h2] at h
      obtain ⟨g, h3, h4⟩ := h
      exact ⟨_, _, h3, ⟨(fun h => by rw [h1] at h; cases h), (fun _ h => by rw [h2] at h; cases h), fun _ _ => ⟨rfl, g, rfl, h4⟩⟩, hb⟩
set_option maxHeartbeats 8000000 in
theorem planeTrees_any (w : World) (k : Int) (l : List Ac) (vl : Value) (mt : Int) (mf : Bool) (mx my : Int) (hl : RdA w vl l) (hlo : ∀ a ∈ l, a.OkV) (hll : l.length ≤ maxLen) :
    Calls Tryz.prog 10 #[.int .i64 k, vl, Mo mt mf mx my] w fun e w' => e = .returned (.bool true) ∧ Below w.heap.size w w' := by
  have HAW := Lib.hid (fun w' => awake27 w')
  have HHE := Lib.hid (fun w' (hb : Below w.heap.size w w') => heavyA_any w' l vl 40 (hl.below hb) hll)
  have HR := Lib.hid (fun w' => Right_any mt mf mx my w')
  have HV := Lib.hid (And.intro hl hlo)
  obtain ⟨A1, q1, rfl, z1⟩ := hl
  clear z1 hlo hll
  obtain ⟨h1, hh1⟩ : ∃ b, heavyL l 40 = b := ⟨_, rfl⟩
  rw [hh1] at HHE
  have HHH := Lib.hid hh1
  clear hh1
  cases h1 with
  | true =>
    go_enter Tryz.func10, Tryz.ntmps10
    go_wp2_with fail
    refine (HAW.out _).mono ?_
    rintro e w1 ⟨rfl, hb1⟩
    have HB := Lib.hid (show Below w.heap.size w w1 from below_trans (by repeat (first | exact Below.refl _ _ | (refine Below.drew ?_) | (refine below_drewN' ?_ _) | (refine below_alloc' ?_ _) | (refine Below.setCell ?_ (by first | exact Nat.le_refl _ | (simp; done) | (simp; omega)) _))) hb1)
    have HS1 := Lib.hid (show w1.heap[w.heap.size]? = some (MoB mt mf mx my) from ((below_trans ((by repeat (first | exact Below.refl _ _ | (refine Below.drew ?_) | (refine below_drewN' ?_ _) | (refine below_alloc' ?_ _) | (refine Below.setCell ?_ (by first | exact Nat.le_refl _ | (simp; done) | (simp; omega)) _))) : Below (w.alloc (MoB mt mf mx my)).heap.size (w.alloc (MoB mt mf mx my)) _) hb1).block _ (by simp)).trans (alloc_blk _ _))
    have sl := lt_of_block HS1.out
    obtain ⟨s0, s1, s2, s3⟩ := mo_cells HS1.out
    clear hb1
    go_wp2_with fail
    refine (HHE.out _ HB.out).mono ?_
    rintro e w2 ⟨rfl, hw⟩
    obtain rfl := hw.symm
    clear hw
    go_wp2_with fail
    go_ret
    exact ⟨rfl, HB.out⟩
  | false =>
    by_cases g1 : k < 1
    · go_enter Tryz.func10, Tryz.ntmps10
      go_wp2_with fail
      refine (HAW.out _).mono ?_
      rintro e w1 ⟨rfl, hb1⟩
      have HB := Lib.hid (show Below w.heap.size w w1 from below_trans (by repeat (first | exact Below.refl _ _ | (refine Below.drew ?_) | (refine below_drewN' ?_ _) | (refine below_alloc' ?_ _) | (refine Below.setCell ?_ (by first | exact Nat.le_refl _ | (simp; done) | (simp; omega)) _))) hb1)
      have HS1 := Lib.hid (show w1.heap[w.heap.size]? = some (MoB mt mf mx my) from ((below_trans ((by repeat (first | exact Below.refl _ _ | (refine Below.drew ?_) | (refine below_drewN' ?_ _) | (refine below_alloc' ?_ _) | (refine Below.setCell ?_ (by first | exact Nat.le_refl _ | (simp; done) | (simp; omega)) _))) : Below (w.alloc (MoB mt mf mx my)).heap.size (w.alloc (MoB mt mf mx my)) _) hb1).block _ (by simp)).trans (alloc_blk _ _))
      have sl := lt_of_block HS1.out
      obtain ⟨s0, s1, s2, s3⟩ := mo_cells HS1.out
      clear hb1
      go_wp2_with fail
      refine (HHE.out _ HB.out).mono ?_
      rintro e w2 ⟨rfl, hw⟩
      obtain rfl := hw.symm
      clear hw
      go_wp2_with fail
      go_ret
      exact ⟨rfl, HB.out⟩
    · by_cases g2 : k > 16
      · go_enter Tryz.func10, Tryz.ntmps10
        go_wp2_with fail
        refine (HAW.out _).mono ?_
        rintro e w1 ⟨rfl, hb1⟩
        have HB := Lib.hid (show Below w.heap.size w w1 from below_trans (by repeat (first | exact Below.refl _ _ | (refine Below.drew ?_) | (refine below_drewN' ?_ _) | (refine below_alloc' ?_ _) | (refine Below.setCell ?_ (by first | exact Nat.le_refl _ | (simp; done) | (simp; omega)) _))) hb1)
        have HS1 := Lib.hid (show w1.heap[w.heap.size]? = some (MoB mt mf mx my) from ((below_trans ((by repeat (first | exact Below.refl _ _ | (refine Below.drew ?_) | (refine below_drewN' ?_ _) | (refine below_alloc' ?_ _) | (refine Below.setCell ?_ (by first | exact Nat.le_refl _ | (simp; done) | (simp; omega)) _))) : Below (w.alloc (MoB mt mf mx my)).heap.size (w.alloc (MoB mt mf mx my)) _) hb1).block _ (by simp)).trans (alloc_blk _ _))
        have sl := lt_of_block HS1.out
        obtain ⟨s0, s1, s2, s3⟩ := mo_cells HS1.out
        clear hb1
        go_wp2_with fail
        refine (HHE.out _ HB.out).mono ?_
        rintro e w2 ⟨rfl, hw⟩
        obtain rfl := hw.symm
        clear hw
        go_wp2_with fail
        go_ret
        exact ⟨rfl, HB.out⟩
      · obtain ⟨n, rfl⟩ : ∃ n : Nat, k = n := ⟨k.toNat, by omega⟩
        have o1 := heavyA_ok7 HHH.out
        have n1 : 1 ≤ n := by omega
        have n16 : n ≤ 16 := by omega
        have l40 : l.length ≤ 40 := o1.1
        have ok1 : ∀ a ∈ l, a.Ok := fun a ha => ⟨o1.2 a ha, (HV.out.2 a ha).1, (HV.out.2 a ha).2⟩
        have HGR := Lib.hid (fun W (hb : Below w.heap.size w W) => grown_any W n l _ n1 n16 (HV.out.1.below hb) ok1 (by omega))
        have hes : EtS n (playL n [] l) := EtS.play ⟨Et.nil n, by omega, by simp⟩ _ ok1 (by simp; omega)
        have hil : (playL n [] l).length ≤ 40 := by have := play_len n [] l; simp at this; omega
        obtain ⟨in_, hin_⟩ : ∃ x, playL n [] l = x := ⟨_, rfl⟩
        rw [hin_] at hes hil
        have HIN := Lib.hid hin_
        have HES := Lib.hid (And.intro hes hil)
        clear o1 n1 n16 l40 ok1 hes hil hin_
        cases hr : Pl.rightB mt mx my with
        | false =>
          have HPT := Lib.hid (fun W t (ht : TrR W t n in_) => ptree_arg W t n in_ mt mf mx my ht hr)
          rw [hr] at HR
          clear hr
          go_enter Tryz.func10, Tryz.ntmps10
          go_wp2_with fail
          refine (HAW.out _).mono ?_
          rintro e w1 ⟨rfl, hb1⟩
          have HB := Lib.hid (show Below w.heap.size w w1 from below_trans (by repeat (first | exact Below.refl _ _ | (refine Below.drew ?_) | (refine below_drewN' ?_ _) | (refine below_alloc' ?_ _) | (refine Below.setCell ?_ (by first | exact Nat.le_refl _ | (simp; done) | (simp; omega)) _))) hb1)
          have HS1 := Lib.hid (show w1.heap[w.heap.size]? = some (MoB mt mf mx my) from ((below_trans ((by repeat (first | exact Below.refl _ _ | (refine Below.drew ?_) | (refine below_drewN' ?_ _) | (refine below_alloc' ?_ _) | (refine Below.setCell ?_ (by first | exact Nat.le_refl _ | (simp; done) | (simp; omega)) _))) : Below (w.alloc (MoB mt mf mx my)).heap.size (w.alloc (MoB mt mf mx my)) _) hb1).block _ (by simp)).trans (alloc_blk _ _))
          have sl := lt_of_block HS1.out
          obtain ⟨s0, s1, s2, s3⟩ := mo_cells HS1.out
          clear hb1
          go_wp2_with fail
          refine (HHE.out _ HB.out).mono ?_
          rintro e w2 ⟨rfl, hw⟩
          obtain rfl := hw.symm
          clear hw
          go_wp2_with fail
          refine (HGR.out _ HB.out).mono ?_
          rintro e w2 ⟨t, vin, rfl, ht, hin, hb2⟩
          rw [HIN.out] at ht hin
          have HB2 := Lib.hid (HB.out.trans (hb2.mono HB.out.size))
          clear s0 s1 s2 s3 sl
          have HS2 := Lib.hid (mo_keep HS1.out (hb2))
          have sl := lt_of_block HS2.out
          obtain ⟨s0, s1, s2, s3⟩ := mo_cells HS2.out
          have HT := Lib.hid (And.intro ht hin)
          have HP := Lib.hid (HPT.out w2 t ht)
          obtain ⟨A3, q3, rfl, _⟩ := hin
          clear ht hb2
          go_wp2_with fail
          refine (HP.out).mono ?_
          rintro e w3 ⟨rfl, hb3⟩
          have HX3 := Lib.hid hb3
          clear s0 s1 s2 s3 sl
          have HS3 := Lib.hid (mo_keep HS2.out (hb3))
          have sl := lt_of_block HS3.out
          obtain ⟨s0, s1, s2, s3⟩ := mo_cells HS3.out
          clear hb3
          go_wp2_with fail
          refine (ptree_nil _ mt mf mx my).mono ?_
          rintro e w4 ⟨rfl, hb4⟩
          have HX4 := Lib.hid (HX3.out.trans (hb4.mono HX3.out.size))
          have HY4 := Lib.hid (show Below w3.heap.size w3 w4 from hb4)
          clear s0 s1 s2 s3 sl
          have HS4 := Lib.hid (mo_keep HS3.out (hb4))
          have sl := lt_of_block HS4.out
          obtain ⟨s0, s1, s2, s3⟩ := mo_cells HS4.out
          clear hb4
          go_wp2_with fail
          refine (HR.out _).mono ?_
          rintro e w5 ⟨rfl, rfl⟩
          go_wp2_with fail
          go_ret
          exact ⟨rfl, below_trans (HB2.out.trans (HX4.out.mono HB2.out.size)) (by repeat (first | exact Below.refl _ _ | (refine Below.drew ?_) | (refine below_drewN' ?_ _) | (refine below_alloc' ?_ _) | (refine Below.setCell ?_ (by first | exact Nat.le_refl _ | (simp; done) | (simp; omega)) _)))⟩
        | true =>
          rw [hr] at HR
          by_cases hk : n = 2
          · subst hk
            have HPT := Lib.hid (fun W t (ht : TrR W t 2 in_) => ptree_any W t in_ mt mf mx my ht hr (by have := HES.out.2; omega))
            have HRT := Lib.hid hr
            rw [show ((2 : Nat) : Int) = 2 from rfl] at HGR ⊢
            clear hr g1 g2
            go_enter Tryz.func10, Tryz.ntmps10
            go_wp2_with fail
            refine (HAW.out _).mono ?_
            rintro e w1 ⟨rfl, hb1⟩
            have HB := Lib.hid (show Below w.heap.size w w1 from below_trans (by repeat (first | exact Below.refl _ _ | (refine Below.drew ?_) | (refine below_drewN' ?_ _) | (refine below_alloc' ?_ _) | (refine Below.setCell ?_ (by first | exact Nat.le_refl _ | (simp; done) | (simp; omega)) _))) hb1)
            have HS1 := Lib.hid (show w1.heap[w.heap.size]? = some (MoB mt mf mx my) from ((below_trans ((by repeat (first | exact Below.refl _ _ | (refine Below.drew ?_) | (refine below_drewN' ?_ _) | (refine below_alloc' ?_ _) | (refine Below.setCell ?_ (by first | exact Nat.le_refl _ | (simp; done) | (simp; omega)) _))) : Below (w.alloc (MoB mt mf mx my)).heap.size (w.alloc (MoB mt mf mx my)) _) hb1).block _ (by simp)).trans (alloc_blk _ _))
            have sl := lt_of_block HS1.out
            obtain ⟨s0, s1, s2, s3⟩ := mo_cells HS1.out
            clear hb1
            go_wp2_with fail
            refine (HHE.out _ HB.out).mono ?_
            rintro e w2 ⟨rfl, hw⟩
            obtain rfl := hw.symm
            clear hw
            go_wp2_with fail
            refine (HGR.out _ HB.out).mono ?_
            rintro e w2 ⟨t, vin, rfl, ht, hin, hb2⟩
            rw [HIN.out] at ht hin
            have HB2 := Lib.hid (HB.out.trans (hb2.mono HB.out.size))
            clear s0 s1 s2 s3 sl
            have HS2 := Lib.hid (mo_keep HS1.out (hb2))
            have sl := lt_of_block HS2.out
            obtain ⟨s0, s1, s2, s3⟩ := mo_cells HS2.out
            have HT := Lib.hid (And.intro ht hin)
            have HP := Lib.hid (HPT.out w2 t ht)
            obtain ⟨A3, q3, rfl, _⟩ := hin
            clear ht hb2
            go_wp2_with fail
            refine (HP.out).mono ?_
            intro e w3 h3
            obtain ⟨qu, ec, rfl, hq3, hb3⟩ := ptr_q h3
            have HQ := Lib.hid hq3
            have HX3 := Lib.hid hb3
            clear h3 hq3
            clear s0 s1 s2 s3 sl
            have HS3 := Lib.hid (mo_keep HS2.out (hb3))
            have sl := lt_of_block HS3.out
            obtain ⟨s0, s1, s2, s3⟩ := mo_cells HS3.out
            clear hb3
            go_wp2_with fail
            refine (ptree_nil _ mt mf mx my).mono ?_
            rintro e w4 ⟨rfl, hb4⟩
            have HX4 := Lib.hid (HX3.out.trans (hb4.mono HX3.out.size))
            have HY4 := Lib.hid (show Below w3.heap.size w3 w4 from hb4)
            clear s0 s1 s2 s3 sl
            have HS4 := Lib.hid (mo_keep HS3.out (hb4))
            have sl := lt_of_block HS4.out
            obtain ⟨s0, s1, s2, s3⟩ := mo_cells HS4.out
            clear hb4
            go_wp2_with fail
            refine (HR.out _).mono ?_
            rintro e w5 ⟨rfl, rfl⟩
            go_wp2_with fail
            have HM := Lib.hid (And.intro HRT.out (And.intro HES.out.1 HES.out.2))
            have HIS := Lib.hid (fun W t v l (ht : TrR W t 2 l) (hv : RdE W v l) (he : EtS 2 l) => is07_any W t 2 l v ht hv he)
            rw [show ((2 : Nat) : Int) = 2 from rfl] at HIS
            have HV4 := Lib.hid (HT.out.2.below HX4.out)
            have HRX := Lib.hid (fun W v (hv : RdE W v in_) (hs : ∀ e ∈ in_, Sm2 e.p) => rtree_any W mt mf mx my in_ v HM.out.1 hv (by have := HM.out.2.2; omega) hs)
            have HBK := Lib.hid (fun W => Back_any mt mf mx my W HM.out.1)
            have HLN := Lib.hid HES.out.2
            go_loopw [14] (fun iv wr => ∃ (j : Nat), j ≤ in_.length ∧ iv = .int .i64 (j : Nat) ∧ (in_.take j).all (fun x => smB x.p) = true ∧ Below w4.heap.size w4 wr) (fun iv _ => in_.length - (intOf iv).toNat)
            case atStart => exact ⟨0, Nat.zero_le _, rfl, rfl, (by repeat (first | exact Below.refl _ _ | (refine Below.drew ?_) | (refine below_drewN' ?_ _) | (refine below_alloc' ?_ _) | (refine Below.setCell ?_ (by first | exact Nat.le_refl _ | (simp; done) | (simp; omega)) _)))⟩
            case round =>
              obtain ⟨j, hj, rfl, hall, hb⟩ := hrel
              clear s0 s1 s2 s3 sl
              have HB5 := Lib.hid hb
              by_cases hlt : j < in_.length
              · have h3 : (j : Int) < in_.length := by omega
                have h5 : (0 : Int) ≤ (j : Int) := by omega
                have HW := Lib.hid (show wrap64 ((j : Int) + 1) = ((j + 1 : Nat) : Int) by have := HLN.out; unfold wrap64; omega)
                obtain ⟨A', c', e', _, hx⟩ := HV4.out
                simp only [Value.slice.injEq] at e'
                obtain ⟨rfl, _, rfl⟩ := e'
                obtain ⟨bk, ofs, rfl, hc⟩ := hx (by omega)
                obtain ⟨x, k0, ku, k1⟩ := hc j hlt
                replace k0 := Below.keeps hb _ _ k0
                have HAL2 := Lib.hid (show (in_.take (j + 1)).all (fun x => smB x.p) = smB in_[j].p by rw [← List.take_append_getElem hlt, List.all_append, hall]; simp)
                have hln := HM.out.2.1.et.len _ (List.getElem_mem hlt)
                have HSM := Lib.hid (fun w' (hb : Below w4.heap.size w4 w') => Small_any x (pti in_[j].p) w' (ku.below hb))
                rw [small_smB hln] at HSM
                have HNO := Lib.hid (fun (h : smB in_[j].p = false) => (show in_.all (fun x => smB x.p) = false from List.all_eq_false.2 ⟨in_[j], List.getElem_mem hlt, by simp [h]⟩))
                obtain ⟨A0, cc, rfl, _⟩ := RdU.point ku
                have hblt : bk < wr.heap.size := World.block_lt_of_cell? wr _ k0
                obtain ⟨ok, hok⟩ : ∃ b, smB in_[j].p = b := ⟨_, rfl⟩
                rw [hok] at HAL2 HSM HNO
                generalize in_[j].p = xp at *
                clear hc hx ku hb hln hok hall k1
                go_wp2_with fail
                refine (HSM.out _ HB5.out).mono ?_
                rintro e w5 ⟨rfl, rfl⟩
                cases ok with
                | false =>
                  obtain ⟨rfl, rfl⟩ := HQ.out.1 (HNO.out rfl)
                  go_wp2_with fail
                  go_ret
                  exact ⟨rfl, HB2.out.trans ((HX4.out.trans (HB5.out.mono HX4.out.size)).mono HB2.out.size)⟩
                | true =>
                  go_wp2_with fail
                  go_roundw
                  case rel => exact ⟨j + 1, by omega, (by first | rw [HW.out] | rfl | simp), HAL2.out, HB5.out⟩
                  case measure => (first | (rw [intOf_of' HW.out, intOf_of' rfl]; omega) | (simp [intOf]; omega) | (simp [intOf] <;> omega))
              · have h3 : ¬ (j : Int) < (in_.length : Int) := by omega
                have e : in_.take j = in_ := List.take_of_length_le (by omega)
                rw [e] at hall
                have hs2 : ∀ e ∈ in_, Sm2 e.p := fun e he => smB_sm (List.all_eq_true.1 hall e he)
                have HS5 := Lib.hid (mo_keep HS4.out hb)
                have HX5 := Lib.hid (HX4.out.trans (hb.mono HX4.out.size))
                have HY5 := Lib.hid (HY4.out.trans (hb.mono HY4.out.size))
                have HR5 := Lib.hid (HRX.out wr _ (HV4.out.below hb) hs2)
                have HALL := Lib.hid (And.intro hall hs2)
                have sl := lt_of_block HS5.out
                obtain ⟨s0, s1, s2, s3⟩ := mo_cells HS5.out
                clear hb e hall hs2
                go_wp2_with fail
                refine (HR5.out).mono ?_
                rintro e w6 ⟨hb6, hcase⟩
                have HX6 := Lib.hid (HX5.out.trans (hb6.mono HX5.out.size))
                have HY6 := Lib.hid (HY5.out.trans (hb6.mono HY5.out.size))
                clear s0 s1 s2 s3 sl
                have HS6 := Lib.hid (mo_keep HS5.out hb6)
                have sl := lt_of_block HS6.out
                obtain ⟨s0, s1, s2, s3⟩ := mo_cells HS6.out
                clear hb6
                cases hm : in_.all (fun x => mvOk mt mf mx my x.p) with
                | false =>
                  rw [hm] at hcase
                  subst hcase
                  obtain ⟨rfl, rfl⟩ := HQ.out.2.1 HALL.out.1 hm
                  clear hm
                  go_wp2_with fail
                  go_ret
                  exact ⟨rfl, HB2.out.trans (HX6.out.mono HB2.out.size)⟩
                | true =>
                  rw [hm] at hcase
                  obtain ⟨v6, rfl, hr6⟩ := hcase
                  obtain ⟨rfl, g, rfl, hg⟩ := HQ.out.2.2 HALL.out.1 hm
                  have hmv : ∀ e ∈ in_, mvOk mt mf mx my e.p = true := fun e he => List.all_eq_true.1 hm e he
                  have hA := mv_all HM.out.1 HM.out.2.1.et HALL.out.2 hmv
                  have hE := mv_ets HM.out.2.1 hmv
                  have hK := mv_back HM.out.1 HM.out.2.1.et HALL.out.2 hmv
                  have HG := Lib.hid (show TrR w6 g 2 _ from hg.bel HY6.out)
                  generalize putsL [] (in_.map (mvE mt mf mx my)) = m2 at *
                  have h1 : m2.all (fun x => smB x.p) = true := List.all_eq_true.2 fun e he => sm_smB (hA e he).1
                  have h2 : m2.all (fun x => mvOk (Pl.backT mt mf) mf (Pl.backX mt mf mx my) (Pl.backY mt mf mx my) x.p) = true := List.all_eq_true.2 fun e he => (hA e he).2
                  have HPB := Lib.hid (fun W (ht : TrR W g 2 m2) => ptree_any W g m2 (Pl.backT mt mf) mf (Pl.backX mt mf mx my) (Pl.backY mt mf mx my) ht (Pl.back_right mf HM.out.1) hE.short)
                  have HEE := Lib.hid (And.intro hE (And.intro hK (And.intro h1 h2)))
                  have HR6 := Lib.hid hr6
                  obtain ⟨A6, c6, rfl, _⟩ := hr6
                  generalize Pl.backT mt mf = bt at *
                  generalize Pl.backX mt mf mx my = bx at *
                  generalize Pl.backY mt mf mx my = bY at *
                  clear hg hmv hA hE hK h1 h2 hm
                  go_wp2_with fail
                  refine (HBK.out w6).mono ?_
                  rintro e w7 ⟨rfl, hb7⟩
                  have HY7 := Lib.hid hb7
                  clear hb7 s0 s1 s2 s3 sl
                  go_wp2_with fail
                  refine (HPB.out _ (HG.out.bel (below_trans HY7.out (by repeat (first | exact Below.refl _ _ | (refine Below.drew ?_) | (refine below_drewN' ?_ _) | (refine below_alloc' ?_ _) | (refine Below.setCell ?_ (by first | exact Nat.le_refl _ | (simp; done) | (simp; omega)) _)))))).mono ?_
                  intro e w8 h8
                  obtain ⟨qv, ev, rfl, hq8, hb8⟩ := ptr_q h8
                  obtain ⟨rfl, g2, rfl, hg2⟩ := hq8.2.2 HEE.out.2.2.1 HEE.out.2.2.2
                  rw [HEE.out.2.1] at hg2
                  have HY8 := Lib.hid (show Below w6.heap.size w6 w8 from below_trans (below_trans HY7.out (by repeat (first | exact Below.refl _ _ | (refine Below.drew ?_) | (refine below_drewN' ?_ _) | (refine below_alloc' ?_ _) | (refine Below.setCell ?_ (by first | exact Nat.le_refl _ | (simp; done) | (simp; omega)) _)))) hb8)
                  have HG2 := Lib.hid hg2
                  clear h8 hq8 hb8 hg2
                  go_wp2_with fail
                  refine (HIS.out w8 g _ m2 (HG.out.bel HY8.out) (HR6.out.below HY8.out) HEE.out.1).mono ?_
                  rintro e w9 ⟨rfl, hb9⟩
                  have HY9 := Lib.hid hb9
                  have HX9 := Lib.hid (HX6.out.trans ((HY8.out.trans (hb9.mono HY8.out.size)).mono HX6.out.size))
                  clear hb9
                  go_wp2_with fail
                  refine (HIS.out w9 g2 _ in_ (HG2.out.bel HY9.out) (HT.out.2.below HX9.out) HM.out.2.1).mono ?_
                  rintro e wa ⟨rfl, hba⟩
                  have HXa := Lib.hid (HX9.out.trans (hba.mono HX9.out.size))
                  clear hba
                  go_wp2_with fail
                  go_ret
                  exact ⟨rfl, HB2.out.trans (HXa.out.mono HB2.out.size)⟩
          · have HPT := Lib.hid (fun W t (ht : TrR W t n in_) => ptree_dim W t n in_ mt mf mx my ht hr hk)
            have hk1 : ¬ (n : Int) = 2 := by omega
            have hk2 : ((n : Int) == 2) = false := by simp; omega
            have hk3 : ((n : Int) != 2) = true := by simp; omega
            clear hr
            go_enter Tryz.func10, Tryz.ntmps10
            go_wp2_with fail
            refine (HAW.out _).mono ?_
            rintro e w1 ⟨rfl, hb1⟩
            have HB := Lib.hid (show Below w.heap.size w w1 from below_trans (by repeat (first | exact Below.refl _ _ | (refine Below.drew ?_) | (refine below_drewN' ?_ _) | (refine below_alloc' ?_ _) | (refine Below.setCell ?_ (by first | exact Nat.le_refl _ | (simp; done) | (simp; omega)) _))) hb1)
            have HS1 := Lib.hid (show w1.heap[w.heap.size]? = some (MoB mt mf mx my) from ((below_trans ((by repeat (first | exact Below.refl _ _ | (refine Below.drew ?_) | (refine below_drewN' ?_ _) | (refine below_alloc' ?_ _) | (refine Below.setCell ?_ (by first | exact Nat.le_refl _ | (simp; done) | (simp; omega)) _))) : Below (w.alloc (MoB mt mf mx my)).heap.size (w.alloc (MoB mt mf mx my)) _) hb1).block _ (by simp)).trans (alloc_blk _ _))
            have sl := lt_of_block HS1.out
            obtain ⟨s0, s1, s2, s3⟩ := mo_cells HS1.out
            clear hb1
            go_wp2_with fail
            refine (HHE.out _ HB.out).mono ?_
            rintro e w2 ⟨rfl, hw⟩
            obtain rfl := hw.symm
            clear hw
            go_wp2_with fail
            refine (HGR.out _ HB.out).mono ?_
            rintro e w2 ⟨t, vin, rfl, ht, hin, hb2⟩
            rw [HIN.out] at ht hin
            have HB2 := Lib.hid (HB.out.trans (hb2.mono HB.out.size))
            clear s0 s1 s2 s3 sl
            have HS2 := Lib.hid (mo_keep HS1.out (hb2))
            have sl := lt_of_block HS2.out
            obtain ⟨s0, s1, s2, s3⟩ := mo_cells HS2.out
            have HT := Lib.hid (And.intro ht hin)
            have HP := Lib.hid (HPT.out w2 t ht)
            obtain ⟨A3, q3, rfl, _⟩ := hin
            clear ht hb2
            go_wp2_with fail
            refine (HP.out).mono ?_
            rintro e w3 ⟨rfl, hb3⟩
            have HX3 := Lib.hid hb3
            clear s0 s1 s2 s3 sl
            have HS3 := Lib.hid (mo_keep HS2.out (hb3))
            have sl := lt_of_block HS3.out
            obtain ⟨s0, s1, s2, s3⟩ := mo_cells HS3.out
            clear hb3
            go_wp2_with fail
            refine (ptree_nil _ mt mf mx my).mono ?_
            rintro e w4 ⟨rfl, hb4⟩
            have HX4 := Lib.hid (HX3.out.trans (hb4.mono HX3.out.size))
            have HY4 := Lib.hid (show Below w3.heap.size w3 w4 from hb4)
            clear s0 s1 s2 s3 sl
            have HS4 := Lib.hid (mo_keep HS3.out (hb4))
            have sl := lt_of_block HS4.out
            obtain ⟨s0, s1, s2, s3⟩ := mo_cells HS4.out
            clear hb4
            go_wp2_with fail
            refine (HR.out _).mono ?_
            rintro e w5 ⟨rfl, rfl⟩
            go_wp2_with fail
            go_ret
            exact ⟨rfl, below_trans (HB2.out.trans (HX4.out.mono HB2.out.size)) (by repeat (first | exact Below.refl _ _ | (refine Below.drew ?_) | (refine below_drewN' ?_ _) | (refine below_alloc' ?_ _) | (refine Below.setCell ?_ (by first | exact Nat.le_refl _ | (simp; done) | (simp; omega)) _)))⟩
end Go.Proofs.YtjokcagggmjgmaaGreat
