/-
  The walks of what ReadChanges defers, in a frame that returns; slices.Clip.
-/
import Derived.Test.YtlmgabhdeeehmaaPkR4
import Derived.Defers
import Derived.Recover
namespace Go.Proofs.Ytlmgabhdeeehmaa
open Go.RowKit
set_option linter.unusedVariables false
set_option linter.unusedSimpArgs false

theorem caught_any (E : Nat) (w : World) :
    Calls Try.prog 98 #[.pointer (some ⟨E, 0, none⟩)] w fun e w' => e = .returned (.func (.func 144) #[] #[.pointer (some ⟨w.heap.size, 0, none⟩)]) ∧ Below w.heap.size w w' := by
  have hmf : ∀ (fn : Fn) (first cap : Array Value) (w : World), (Instr.makeFunc fn first cap).run Try.prog w = .ok (.func fn first cap) w := fun _ _ _ _ => rfl
  go_enter Try.func98, Try.ntmps98
  go_wp2_with fail
  go_ret
  exact ⟨rfl, (by repeat (first | exact Below.refl _ _ | assumption | (refine Below.drew ?_) | (refine below_drewN' ?_ _) | (refine below_alloc' ?_ _)))⟩
theorem caught1_nil (b : Nat) (w : World) :
    Calls Try.prog 144 #[.nilIface, .pointer (some ⟨b, 0, none⟩)] w fun e w' => e = .returned (.tuple #[]) ∧ w' = w := by
  go_enter Try.func144, Try.ntmps144
  go_wp2_with fail
  go_end0
  exact ⟨rfl, rfl⟩

theorem deferred_idle (E K L : Nat) (w : World) (he : w.cell? ⟨E, 0, none⟩ = some (.int .i64 0)) :
    CallsD Try.prog 97 #[.pointer (some ⟨E, 0, none⟩), .pointer (some ⟨K, 0, none⟩), .pointer (some ⟨L, 0, none⟩)] .returning w fun e u' w' => e = .returned (.tuple #[]) ∧ u' = .returning ∧ Below w.heap.size w w' := by
  refine callsD_of_wpS Try.func97 rfl fun c₀ cs hu => ?_
  apply wpS_seq
  apply wpS_region
  simp [wpOpsS, go_sem, recoverD, hu, Try.ntmps97, Exit.thenS]
  refine (caught_any E w).mono ?_
  rintro e w1 ⟨rfl, hb1⟩
  have he1 := Below.keeps hb1 _ _ he
  simp [wpOpsS, go_sem, invoke]
  refine (caught1_nil _ w1).mono ?_
  rintro e w2 ⟨rfl, hw⟩
  obtain rfl := hw.symm
  simp only []
  apply wpS_seq
  apply wpS_region
  simp [wpOpsS, go_sem, he1, Exit.thenS]
  refine wpS_cond (t := false) (by simp [Act.eval, Array.replicate]) ?_
  simp only [Bool.false_eq_true, if_false]
  refine wpS_of_wp (wp_skip ?_)
  cases c₀
  simp_all [bodyPostS, results, Try.results97]

/-- what Clip hands back: the same row -/
theorem clip_any (A : Option Addr) (n c : Nat) (w : World) (hcap : n ≤ c) :
    Calls Try.prog 102 #[.slice A n c] w fun e w' => e = .returned (.slice A n n) ∧ w' = w := by
  have h1 : (0 : Int) ≤ (n : Int) := by omega
  have h2 : (n : Int) ≤ (c : Int) := by omega
  go_enter Try.func102, Try.ntmps102
  go_wp2_with fail
  go_ret
  exact ⟨rfl, rfl⟩
end Go.Proofs.Ytlmgabhdeeehmaa
