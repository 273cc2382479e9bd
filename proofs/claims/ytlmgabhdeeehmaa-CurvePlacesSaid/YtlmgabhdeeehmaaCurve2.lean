/-
  The walks of package curve: in which quarter.
-/
import Derived.Test.YtlmgabhdeeehmaaCurve
namespace Go.Proofs.Ytlmgabhdeeehmaa
open Go.RowKit
set_option linter.unusedVariables false

theorem qat0 (w : World) : (Instr.index 190 (.agg QCells) (.int .i64 0)).run Try.prog w = .ok (.agg #[.complex .f64 0 0, .func (.func 181) #[] #[]]) w := by kernel_rfl
theorem qat1 (w : World) : (Instr.index 190 (.agg QCells) (.int .i64 1)).run Try.prog w = .ok (.agg #[.complex .f64 0 4607182418800017408, .func (.func 182) #[] #[]]) w := by kernel_rfl
theorem qat2 (w : World) : (Instr.index 190 (.agg QCells) (.int .i64 2)).run Try.prog w = .ok (.agg #[.complex .f64 4607182418800017408 4607182418800017408, .func (.func 182) #[] #[]]) w := by kernel_rfl
theorem qat3 (w : World) : (Instr.index 190 (.agg QCells) (.int .i64 3)).run Try.prog w = .ok (.agg #[.complex .f64 4607182418800017408 0, .func (.func 183) #[] #[]]) w := by kernel_rfl

def partOf (b1 b2 : Bool) : Int := if b1 then (if b2 then 2 else 3) else (if b2 then 1 else 0)
theorem order10 : FloatKind.f64.format.order 4607182418800017408 0 = some .gt := by decide
theorem order00 : FloatKind.f64.format.order 0 0 = some .eq := by decide

set_option maxRecDepth 100000 in
set_option maxHeartbeats 1000000 in
theorem part_bits (re im s : Nat) (b1 b2 : Bool) (w : World)
    (h1 : (FloatKind.f64.format.order re s == some .gt || FloatKind.f64.format.order re s == some .eq) = b1)
    (h2 : (FloatKind.f64.format.order im s == some .gt || FloatKind.f64.format.order im s == some .eq) = b2) :
    Calls Try.prog 133 #[.complex .f64 re im, .float .f64 s] w fun e w' => e = .returned (.int .i64 (partOf b1 b2)) ∧ Below w.heap.size w w' := by
  have q0 := qat0
  have q1 := qat1
  have q2 := qat2
  have q3 := qat3
  have o1 := order10
  have o0 := order00
  cases b1
  · cases b2
    · go_enter Try.func133, Try.ntmps133
      go_wp2_with fail
      refine (quarters_all _).mono ?_
      rintro e w' ⟨rfl, rfl⟩
      go_wp2_with fail
      refine wp_loop_rounds 1 ?_
      rw [rounds_succ]
      go_wp2_with fail
      go_ret
      exact ⟨rfl, (by repeat (first | exact Below.refl _ _ | assumption | (refine Below.drew ?_) | (refine below_drewN' ?_ _) | (refine below_alloc' ?_ _)))⟩
    · go_enter Try.func133, Try.ntmps133
      go_wp2_with fail
      refine (quarters_all _).mono ?_
      rintro e w' ⟨rfl, rfl⟩
      go_wp2_with fail
      refine wp_loop_rounds 2 ?_
      rw [rounds_succ]
      go_wp2_with fail
      rw [rounds_succ]
      go_wp2_with fail
      go_ret
      exact ⟨rfl, (by repeat (first | exact Below.refl _ _ | assumption | (refine Below.drew ?_) | (refine below_drewN' ?_ _) | (refine below_alloc' ?_ _)))⟩
  · cases b2
    · go_enter Try.func133, Try.ntmps133
      go_wp2_with fail
      refine (quarters_all _).mono ?_
      rintro e w' ⟨rfl, rfl⟩
      go_wp2_with fail
      refine wp_loop_rounds 4 ?_
      rw [rounds_succ]
      go_wp2_with fail
      rw [rounds_succ]
      go_wp2_with fail
      rw [rounds_succ]
      go_wp2_with fail
      rw [rounds_succ]
      go_wp2_with fail
      go_ret
      exact ⟨rfl, (by repeat (first | exact Below.refl _ _ | assumption | (refine Below.drew ?_) | (refine below_drewN' ?_ _) | (refine below_alloc' ?_ _)))⟩
    · go_enter Try.func133, Try.ntmps133
      go_wp2_with fail
      refine (quarters_all _).mono ?_
      rintro e w' ⟨rfl, rfl⟩
      go_wp2_with fail
      refine wp_loop_rounds 3 ?_
      rw [rounds_succ]
      go_wp2_with fail
      rw [rounds_succ]
      go_wp2_with fail
      rw [rounds_succ]
      go_wp2_with fail
      go_ret
      exact ⟨rfl, (by repeat (first | exact Below.refl _ _ | assumption | (refine Below.drew ?_) | (refine below_drewN' ?_ _) | (refine below_alloc' ?_ _)))⟩

theorem part_val {re im s : Nat} {x y S : Int} (w : World) (hx : Fl.Val re x) (hy : Fl.Val im y) (hs : Fl.Val s S) :
    Calls Try.prog 133 #[.complex .f64 re im, .float .f64 s] w fun e w' => e = .returned (.int .i64 (Cv.quar S x y)) ∧ Below w.heap.size w w' := by
  have o1 : (FloatKind.f64.format.order re s == some .gt || FloatKind.f64.format.order re s == some .eq) = decide (S ≤ x) := by
    rw [Val.order hx hs]
    by_cases h : x < S
    · rw [show compare x S = .lt from Int.compare_eq_lt.2 h]; simp; omega
    · by_cases h' : x = S
      · subst h'; rw [show compare x x = .eq from Int.compare_eq_eq.2 rfl]; simp
      · rw [show compare x S = .gt from Int.compare_eq_gt.2 (by omega)]; simp; omega
  have o2 : (FloatKind.f64.format.order im s == some .gt || FloatKind.f64.format.order im s == some .eq) = decide (S ≤ y) := by
    rw [Val.order hy hs]
    by_cases h : y < S
    · rw [show compare y S = .lt from Int.compare_eq_lt.2 h]; simp; omega
    · by_cases h' : y = S
      · subst h'; rw [show compare y y = .eq from Int.compare_eq_eq.2 rfl]; simp
      · rw [show compare y S = .gt from Int.compare_eq_gt.2 (by omega)]; simp; omega
  refine (part_bits re im s _ _ w o1 o2).mono ?_
  rintro e w' ⟨rfl, hb⟩
  refine ⟨?_, hb⟩
  congr 2
  unfold partOf Cv.quar
  by_cases h : x < S <;> by_cases h' : y < S
  · rw [if_pos h, if_pos h', show decide (S ≤ x) = false by simp; omega, show decide (S ≤ y) = false by simp; omega]; rfl
  · rw [if_pos h, if_neg h', show decide (S ≤ x) = false by simp; omega, show decide (S ≤ y) = true by simp; omega]; rfl
  · rw [if_neg h, if_neg (show ¬ S ≤ y by omega), show decide (S ≤ x) = true by simp; omega, show decide (S ≤ y) = false by simp; omega]; rfl
  · rw [if_neg h, if_pos (show S ≤ y by omega), show decide (S ≤ x) = true by simp; omega, show decide (S ≤ y) = true by simp; omega]; rfl
