/-
  CurveWalks: the walk.
-/
import Derived.Test.YtlmgabhdeeehmaaRef30b
import Derived.Test.YtlmgabhdeeehmaaLawCurve
namespace Go.Proofs.Ytlmgabhdeeehmaa
open Go.RowKit
set_option linter.unusedVariables false

set_option maxHeartbeats 400000 in
theorem walks_code (n st : Int) (v : Value) (p : List Int) (c : Int) (w : World) (hv : RdU w v p) (hp : ∀ z ∈ p, 0 ≤ z) (hc : Cv.checkR n p = c) (h0 : (c != 0) = true) :
    Calls Try.prog 8 #[.int .i64 n, v, .int .i64 st] w fun e w' => e = .returned (.bool true) ∧ Below w.heap.size w w' := by
  have H := Lib.hid (fun w hv => RefCheck_any n v p w hv hp)
  rw [hc] at H
  have hv := Lib.hid hv
  clear hc hp
  go_enter Try.func8, Try.ntmps8
  go_wp2_with fail
  refine (awake30 _).mono ?_
  rintro e w1 ⟨rfl, hb⟩
  go_wp2_with fail
  refine Calls.mono (H.out _ ?_) ?_
  · exact hv.out.below hb
  rintro e w2 ⟨rfl, m, rfl⟩
  go_wp2_with fail
  go_ret
  exact ⟨rfl, (by repeat (first | exact Below.refl _ _ | assumption | (refine Below.drew ?_) | (refine below_drewN' ?_ _) | (refine below_alloc' ?_ _)))⟩

set_option maxHeartbeats 400000 in
theorem walks_steps (n st : Int) (v : Value) (p : List Int) (w : World) (hv : RdU w v p) (hp : ∀ z ∈ p, 0 ≤ z) (hc : Cv.checkR n p = 0) (hs : st < 0 ∨ st > 100) :
    Calls Try.prog 8 #[.int .i64 n, v, .int .i64 st] w fun e w' => e = .returned (.bool true) ∧ Below w.heap.size w w' := by
  have H := Lib.hid (fun w hv => RefCheck_any n v p w hv hp)
  rw [hc] at H
  have hv := Lib.hid hv
  clear hc hp
  rcases hs with h | h
  · go_enter Try.func8, Try.ntmps8
    go_wp2_with fail
    refine (awake30 _).mono ?_
    rintro e w1 ⟨rfl, hb⟩
    go_wp2_with fail
    refine Calls.mono (H.out _ ?_) ?_
    · exact hv.out.below hb
    rintro e w2 ⟨rfl, m, rfl⟩
    go_wp2_with fail
    go_ret
    exact ⟨rfl, (by repeat (first | exact Below.refl _ _ | assumption | (refine Below.drew ?_) | (refine below_drewN' ?_ _) | (refine below_alloc' ?_ _)))⟩
  · have h' : ¬ st < 0 := by omega
    go_enter Try.func8, Try.ntmps8
    go_wp2_with fail
    refine (awake30 _).mono ?_
    rintro e w1 ⟨rfl, hb⟩
    go_wp2_with fail
    refine Calls.mono (H.out _ ?_) ?_
    · exact hv.out.below hb
    rintro e w2 ⟨rfl, m, rfl⟩
    go_wp2_with fail
    go_ret
    exact ⟨rfl, (by repeat (first | exact Below.refl _ _ | assumption | (refine Below.drew ?_) | (refine below_drewN' ?_ _) | (refine below_alloc' ?_ _)))⟩

set_option maxRecDepth 100000 in
set_option maxHeartbeats 1000000 in
theorem walks_go (k st : Nat) (v : Value) (G : Int) (w : World) (hk : 1 ≤ k ∧ k ≤ 20) (hG : 0 ≤ G ∧ G < Cv.Q k) (hv : RdU w v [(Cv.pt k G).1, (Cv.pt k G).2]) (hst : st ≤ 100) :
    Calls Try.prog 8 #[.int .i64 k, v, .int .i64 st] w fun e w' => e = .returned (.bool true) ∧ Below w.heap.size w w' := by
  have h1 : ¬ (st : Int) < 0 := by omega
  have h2 : ¬ (st : Int) > 100 := by omega
  have H := Lib.hid (fun w hv => RefCheck_any k v _ w hv (Cv.pt_nonneg k G))
  rw [Cv.check_pt k G hk] at H
  have HP := Lib.hid (fun w => Power_two k w hk.2)
  have HK := Lib.hid (And.intro hk (And.intro hG hst))
  have hv := Lib.hid hv
  have hk1 : 1 ≤ (k : Int) := by omega
  have hk2 : (k : Int) ≤ 20 := by omega
  clear hk hG hst
  go_enter Try.func8, Try.ntmps8
  go_wp2_with fail
  refine (awake30 _).mono ?_
  rintro e w1 ⟨rfl, hb1⟩
  go_wp2_with fail
  refine Calls.mono (H.out _ ?_) ?_
  · exact hv.out.below hb1
  rintro e w2 ⟨rfl, m, rfl⟩
  go_wp2_with fail
  refine Calls.mono (Place_pt k G HK.out.1 HK.out.2.1 v _ ?_) ?_
  · exact (hv.out.below hb1).drewN m
  rintro e w2 ⟨rfl, hb2⟩
  have hb2 : Below w1.heap.size w1 w2 := Below.trans (b := w1.drewN m) (by repeat (first | exact Below.refl _ _ | assumption | (refine Below.drew ?_) | (refine below_drewN' ?_ _) | (refine below_alloc' ?_ _))) (hb2.mono (by simp))
  have hv2 := (hv.out.below hb1).below hb2
  have hb2 := hb1.trans (hb2.mono hb1.size)
  have HV := Lib.hid (And.intro hv2 hb2)
  clear hb1 hb2 hv2
  go_wp2_with fail
  go_loopw [10, 9] (fun i at' wr => ∃ j : Nat, j ≤ st ∧ i = .int .i64 j ∧ G + j < Cv.Q k ∧ RdU wr at' [(Cv.pt k (G + j)).1, (Cv.pt k (G + j)).2] ∧ Below w.heap.size w wr) (fun i _ _ => st - (intOf i).toNat)
  case atStart => exact ⟨0, Nat.zero_le _, rfl, by have := HK.out; omega, by rw [show G + ((0 : Nat) : Int) = G by omega]; exact HV.out.1, HV.out.2⟩
  case round =>
    obtain ⟨j, hj, rfl, hGj, hva, hb⟩ := hrel
    have hQl := Cv.Q_le HK.out.1.2
    have HVA := Lib.hid (And.intro hva hb)
    have e1 := wrap_u64 (a := (j : Int)) (by omega) (by have := HK.out; omega)
    have e2 := wrap_u64 (a := G + j) (by have := HK.out; omega) (by have := HK.out; omega)
    have HF := HK.out
    by_cases hlt : j < st
    · have h3 : (j : Int) < st := by omega
      have HW := Lib.hid (show wrap64 ((j : Int) + 1) = ((j + 1 : Nat) : Int) by unfold wrap64; omega)
      by_cases hn : G + j + 1 < Cv.Q k
      · have HN := Lib.hid (Next_pt k (G + j) HK.out.1 (by omega))
        have hs := Cv.pt_step k (G + j) (by omega)
        have r1 := Cv.pt_range k (G + j)
        have r2 := Cv.pt_range k (G + j + 1)
        have hS := Cv.S_le HK.out.1.2
        have HE := Lib.hid (show G + ((j + 1 : Nat) : Int) = G + j + 1 by omega)
        have HNQ := Lib.hid hn
        clear hva hb
        generalize hP1 : Cv.pt k (G + j) = P1 at *
        generalize hP2 : Cv.pt k (G + j + 1) = P2 at *
        obtain ⟨a, b⟩ := P1
        obtain ⟨c, d⟩ := P2
        have hP2 := Lib.hid hP2
        have HFa := Lib.hid (fun w v u hv hu => Far_any a b c d v u w hv hu (by simp at r1; omega) (by simp at r1; omega) (by simp at r2; omega) (by simp at r2; omega))
        rw [show farI a b c d = 1 from hs] at HFa
        clear hs r1 r2 hS hQl hn hP1 HF hGj
        go_wp2_with fail
        refine Calls.mono (HN.out _ _ ?_) ?_
        · exact HVA.out.1
        rintro e w4 ⟨v2, rfl, hv2, hb4⟩
        obtain ⟨B2, o2, c2, rfl, _⟩ := hv2.of_two
        have hv2 := Lib.hid hv2
        go_wp2_with fail
        refine Calls.mono (HFa.out _ _ _ ?_ ?_) ?_
        · exact HVA.out.1.below hb4
        · exact hv2.out
        rintro e w5 ⟨rfl, m5, rfl⟩
        have hz : Below w.heap.size w w4 := HVA.out.2.trans (hb4.mono HVA.out.2.size)
        go_wp2_with fail
        go_roundw
        case rel => exact ⟨j + 1, by omega, congrArg (Value.int .i64) (by omega), by rw [HE.out]; exact HNQ.out, by rw [HE.out, hP2.out]; exact hv2.out.drewN _, (by repeat (first | exact Below.refl _ _ | assumption | (refine Below.drew ?_) | (refine below_drewN' ?_ _) | (refine below_alloc' ?_ _)))⟩
        case measure => rw [intOf_of rfl, intOf_of rfl]; omega
      · have hq : G + j + 1 = Cv.Q k := by omega
        have HN := Lib.hid (Next_end k (G + j) HK.out.1 (by omega))
        have HPl := Lib.hid (Place_pt k (G + j) HK.out.1 (by omega))
        have e3 := wrap_u64 (a := G + j + 1) (by omega) (by omega)
        rw [← hq] at HP
        clear hva hb hQl hn HF hGj hq
        go_wp2_with fail
        refine Calls.mono (HN.out _ _ ?_) ?_
        · exact HVA.out.1
        rintro e w4 ⟨v2, rfl, hv2, hb4⟩
        go_wp2_with fail
        refine Calls.mono (HPl.out _ _ ?_) ?_
        · exact HVA.out.1.below hb4
        rintro e w5 ⟨rfl, hb5⟩
        go_wp2_with fail
        refine (HP.out _).mono ?_
        rintro e w6 ⟨rfl, rfl⟩
        have hz : Below w.heap.size w w4 := HVA.out.2.trans (hb4.mono HVA.out.2.size)
        have hz2 : Below w.heap.size w w6 := hz.trans (hb5.mono hz.size)
        go_wp2_with fail
        go_ret
        exact ⟨rfl, hz2⟩
    · obtain rfl : j = st := by omega
      have HPl := Lib.hid (Place_pt k (G + j) HK.out.1 (by omega))
      clear hva hb hQl HF hGj
      go_wp2_with fail
      refine Calls.mono (HPl.out _ _ ?_) ?_
      · exact HVA.out.1
      rintro e w5 ⟨rfl, hb5⟩
      have hz2 : Below w.heap.size w w5 := HVA.out.2.trans (hb5.mono HVA.out.2.size)
      go_wp2_with fail
      go_ret
      exact ⟨rfl, hz2⟩

theorem curveWalks_all (n : Int) (v : Value) (p : List Int) (st : Int) (w : World) (hv : RdU w v p) (hp : ∀ z ∈ p, 0 ≤ z) :
    Calls Try.prog 8 #[.int .i64 n, v, .int .i64 st] w fun e w' => e = .returned (.bool true) ∧ Below w.heap.size w w' := by
  by_cases hc : Cv.checkR n p = 0
  · by_cases hs : st < 0 ∨ st > 100
    · exact walks_steps n st v p w hv hp hc hs
    · obtain ⟨k, a, b, rfl, h1, h2, rfl, ha, hb⟩ := Cv.checkR_ok hc
      obtain ⟨s, rfl⟩ : ∃ s : Nat, st = s := ⟨st.toNat, by omega⟩
      have h3 := hp a (by simp)
      have h4 := hp b (by simp)
      have hr := Cv.pl_range k a b ⟨h3, ha⟩ ⟨h4, hb⟩
      have he := Cv.pt_pl k a b ⟨h3, ha⟩ ⟨h4, hb⟩
      exact walks_go k s v (Cv.pl k a b) w ⟨h1, h2⟩ hr (by rw [he]; exact hv) (by omega)
  · exact walks_code n st v p _ w hv hp rfl (by simpa using hc)
end Go.Proofs.Ytlmgabhdeeehmaa
