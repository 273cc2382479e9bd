/-
  CurveSteps: the walk.
-/
import Derived.Test.YtlmgabhdeeehmaaRef30
import Derived.Test.YtlmgabhdeeehmaaRef27
namespace Go.Proofs.Ytlmgabhdeeehmaa
open Go.RowKit
set_option linter.unusedVariables false

theorem Cv.p1 : Cv.placeR 2 [1, 0] = (1, 0) := by decide
theorem Cv.p3 : Cv.placeR 2 [3, 0] = (15, 0) := by decide

set_option maxHeartbeats 400000 in
theorem awake30 (w : World) :
    Calls Try.prog 28 #[] w fun e w' => e = .returned (.bool true) ∧ Below w.heap.size w w' := by
  have H1 := fun w v hv => Place_any 2 v [1, 0] w hv (by simp)
  simp only [Cv.p1] at H1
  have H1 := Lib.hid H1
  have H2 := fun w v hv => Place_any 2 v [3, 0] w hv (by simp)
  simp only [Cv.p3] at H2
  have H2 := Lib.hid H2
  go_enter Try.func28, Try.ntmps28
  go_wp2_with fail
  refine Calls.mono (H1.out _ _ ?_) ?_
  · exact RdU.new2 rfl
  rintro e w1 ⟨rfl, hb1⟩
  have h1 : Below w.heap.size w w1 := Below.trans (Below.alloc (Below.refl _ _) (Nat.le_refl _) _) (hb1.mono (by simp))
  go_wp2_with fail
  refine Calls.mono (H2.out _ _ ?_) ?_
  · exact RdU.new2 rfl
  rintro e w2 ⟨rfl, hb2⟩
  have h2 : Below w.heap.size w w2 := Below.trans (Below.alloc h1 h1.size _) (hb2.mono (by have := h1.size; simp; omega))
  go_wp2_with fail
  go_ret
  exact ⟨rfl, h2⟩

set_option maxHeartbeats 400000 in
theorem steps_out (n p : Int) (w : World) (h : n < 1 ∨ n > 20) :
    Calls Try.prog 6 #[.int .i64 n, .int .u64 p] w fun e w' => e = .returned (.bool true) ∧ Below w.heap.size w w' := by
  rcases h with h | h
  · go_enter Try.func6, Try.ntmps6
    go_wp2_with fail
    refine (awake30 _).mono ?_
    rintro e w1 ⟨rfl, hb⟩
    go_wp2_with fail
    go_ret
    exact ⟨rfl, hb⟩
  · have h1 : ¬ n < 1 := by omega
    go_enter Try.func6, Try.ntmps6
    go_wp2_with fail
    refine (awake30 _).mono ?_
    rintro e w1 ⟨rfl, hb⟩
    go_wp2_with fail
    go_ret
    exact ⟨rfl, hb⟩

theorem Power_two (k : Nat) (w : World) (hk : k ≤ 20) : Calls Try.prog 29 #[.int .i64 (2 * (k : Int))] w fun e w' => e = .returned (.int .u64 (Cv.Q k)) ∧ w' = w := by
  have := Power_any (2 * k) w (by omega)
  rw [show Cv.S (2 * k) = Cv.Q k from (Q_eq k).symm] at this
  rw [show (2 * (k : Int)) = ((2 * k : Nat) : Int) by omega]
  exact this

set_option maxHeartbeats 400000 in
theorem steps_far (k : Nat) (p : Int) (w : World) (hk : 1 ≤ k ∧ k ≤ 20) (hp : p ≥ Cv.Q k - 1) :
    Calls Try.prog 6 #[.int .i64 k, .int .u64 p] w fun e w' => e = .returned (.bool true) ∧ Below w.heap.size w w' := by
  have h : ¬ (k : Int) < 1 := by omega
  have h' : ¬ (k : Int) > 20 := by omega
  have HP := Lib.hid (fun w => Power_two k w hk.2)
  have h1 := Cv.Q_pos k
  have h2 := Cv.Q_le hk.2
  have e1 := wrap_u64 (a := Cv.Q k - 1) (by omega) (by omega)
  have e2 : ¬ p < Cv.Q k - 1 := by omega
  generalize Cv.Q k = q at *
  clear hk h1 h2
  go_enter Try.func6, Try.ntmps6
  go_wp2_with fail
  refine (awake30 _).mono ?_
  rintro e w1 ⟨rfl, hb⟩
  go_wp2_with fail
  refine (HP.out _).mono ?_
  rintro e w2 ⟨rfl, rfl⟩
  go_wp2_with fail
  go_ret
  exact ⟨rfl, hb⟩

set_option maxHeartbeats 400000 in
theorem steps_near (k : Nat) (p : Int) (w : World) (hk : 1 ≤ k ∧ k ≤ 20) (hp : 0 ≤ p ∧ p < Cv.Q k - 1) :
    Calls Try.prog 6 #[.int .i64 k, .int .u64 p] w fun e w' => e = .returned (.bool true) ∧ Below w.heap.size w w' := by
  have h : ¬ (k : Int) < 1 := by omega
  have h' : ¬ (k : Int) > 20 := by omega
  have HP := Lib.hid (fun w => Power_two k w hk.2)
  have h1 := Cv.Q_pos k
  have h2 := Cv.Q_le hk.2
  have hS := Cv.S_le hk.2
  have e1 := wrap_u64 (a := Cv.Q k - 1) (by omega) (by omega)
  have e2 : p < Cv.Q k - 1 := by omega
  have e3 := wrap_u64 (a := p + 1) (by omega) (by omega)
  have HA := Lib.hid (fun w => Point_fine k p w hk (by omega))
  have HB := Lib.hid (fun w => Point_fine k (p + 1) w hk (by omega))
  have r1 := Cv.pt_range k p
  have r2 := Cv.pt_range k (p + 1)
  have hs := Cv.pt_step k p (by omega)
  generalize Cv.pt k p = P1 at *
  generalize Cv.pt k (p + 1) = P2 at *
  obtain ⟨a, b⟩ := P1
  obtain ⟨c, d⟩ := P2
  have HF := Lib.hid (fun w v u hv hu => Far_any a b c d v u w hv hu (by simp at r1; omega) (by simp at r1; omega) (by simp at r2; omega) (by simp at r2; omega))
  rw [show farI a b c d = 1 from hs] at HF
  generalize Cv.Q k = q at *
  clear hk h1 h2 hS r1 r2 hs hp
  go_enter Try.func6, Try.ntmps6
  go_wp2_with fail
  refine (awake30 _).mono ?_
  rintro e w1 ⟨rfl, hb⟩
  go_wp2_with fail
  refine (HP.out _).mono ?_
  rintro e w2 ⟨rfl, rfl⟩
  go_wp2_with fail
  refine (HA.out _).mono ?_
  rintro e w2 ⟨v1, rfl, hv1, hb1⟩
  obtain ⟨B1, o1, c1, rfl, _⟩ := hv1.of_two
  have hv1 := Lib.hid hv1
  go_wp2_with fail
  refine (HB.out _).mono ?_
  rintro e w3 ⟨v2, rfl, hv2, hb2⟩
  obtain ⟨B2, o2, c2, rfl, _⟩ := hv2.of_two
  have hv2 := Lib.hid hv2
  go_wp2_with fail
  refine Calls.mono (HF.out _ _ _ ?_ ?_) ?_
  · exact hv1.out.below hb2
  · exact hv2.out
  rintro e w4 ⟨rfl, m, rfl⟩
  have hz : Below w.heap.size w w3 := (hb.trans (hb1.mono hb.size)).trans (hb2.mono (Nat.le_trans hb.size hb1.size))
  go_wp2_with fail
  go_ret
  exact ⟨rfl, (by repeat (first | exact Below.refl _ _ | assumption | (refine Below.drew ?_) | (refine below_drewN' ?_ _) | (refine below_alloc' ?_ _)))⟩

theorem curveSteps_all (n p : Int) (w : World) (hp : 0 ≤ p) :
    Calls Try.prog 6 #[.int .i64 n, .int .u64 p] w fun e w' => e = .returned (.bool true) ∧ Below w.heap.size w w' := by
  by_cases h : n < 1 ∨ n > 20
  · exact steps_out n p w h
  · obtain ⟨k, rfl⟩ : ∃ k : Nat, n = k := ⟨n.toNat, by omega⟩
    by_cases h' : p ≥ Cv.Q k - 1
    · exact steps_far k p w (by omega) h'
    · exact steps_near k p w (by omega) (by omega)
end Go.Proofs.Ytlmgabhdeeehmaa
