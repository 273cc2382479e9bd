/-
  The walks of package curve: the turns, the quarters.
-/
import Derived.Test.YtlmgabhdeeehmaaPlane2
import Derived.Test.YtlmgabhdeeehmaaCurvePure
import Derived.Laws.EntriesVeiled
namespace Go.Proofs.Ytlmgabhdeeehmaa
open Go.RowKit
set_option linter.unusedVariables false

theorem swap_any (re im : Nat) (w : World) :
    Calls Try.prog 219 #[.complex .f64 re im] w fun e w' => e = .returned (.complex .f64 im re) ∧ w' = w := by
  go_enter Try.func219, Try.ntmps219
  go_wp2_with fail
  go_ret
  exact ⟨rfl, rfl⟩

theorem swapped_any (re im s : Nat) (w : World) :
    Calls Try.prog 181 #[.complex .f64 re im, .float .f64 s] w fun e w' => e = .returned (.complex .f64 im re) ∧ w' = w := by
  go_enter Try.func181, Try.ntmps181
  go_wp2_with fail
  refine (swap_any _ _ _).mono ?_
  rintro e w' ⟨rfl, rfl⟩
  go_wp2_with fail
  go_ret
  exact ⟨rfl, rfl⟩

theorem same_any (re im s : Nat) (w : World) :
    Calls Try.prog 182 #[.complex .f64 re im, .float .f64 s] w fun e w' => e = .returned (.complex .f64 re im) ∧ w' = w := by
  go_enter Try.func182, Try.ntmps182
  go_wp2_with fail
  go_ret
  exact ⟨rfl, rfl⟩

theorem one_val : Fl.Val 4607182418800017408 1 := Val.ofInt (n := 1) (by decide)
theorem turned_bits (re im s d r i : Nat) (w : World) (hd : floatBits .sub .f64 s 4607182418800017408 = some d) (hc : cSumBits .sub .f64 d d im re = some (r, i)) :
    Calls Try.prog 183 #[.complex .f64 re im, .float .f64 s] w fun e w' => e = .returned (.complex .f64 r i) ∧ w' = w := by
  have hm := fun (w : World) => run_complex_sum (P := Try.prog) w .sub (.inr rfl) 24 .f64 _ _ _ _ _ _ hc
  have hd' := fun (w : World) => run_float_arith (P := Try.prog) w .sub 31 .f64 _ _ _ hd
  clear hc hd
  go_enter Try.func183, Try.ntmps183
  go_wp2_with fail
  refine (swap_any _ _ _).mono ?_
  rintro e w' ⟨rfl, rfl⟩
  go_wp2_with fail
  go_ret
  exact ⟨rfl, rfl⟩

@[go_sem] theorem run_store_complex {P : Program} {w : World} {a : Addr} {m : Mode} (k : FloatKind) (re im : Nat) : (store a (.complex k re im) m).run P w = stored P w a (.complex k re im) m := run_store P w a _ m rfl
@[go_sem] theorem run_store_float {P : Program} {w : World} {a : Addr} {m : Mode} (k : FloatKind) (b : Nat) : (store a (.float k b) m).run P w = stored P w a (.float k b) m := run_store P w a _ m rfl

/-- the four quarters' cells -/
abbrev QCells : Array Value := #[.complex .f64 0 0, .func (.func 181) #[] #[], .complex .f64 0 4607182418800017408, .func (.func 182) #[] #[],
  .complex .f64 4607182418800017408 4607182418800017408, .func (.func 182) #[] #[], .complex .f64 4607182418800017408 0, .func (.func 183) #[] #[]]

set_option maxHeartbeats 400000 in
theorem quarters_all (w : World) :
    Calls Try.prog 132 #[] w fun e w' => e = .returned (.agg QCells) ∧ w' = w.alloc (.cells QCells 190) := by
  go_enter Try.func132, Try.ntmps132
  go_wp2_with fail
  exact bodyPost_ret (v := .agg QCells) (by simp [results, Try.results132, go_sem]) rfl ⟨rfl, rfl⟩
