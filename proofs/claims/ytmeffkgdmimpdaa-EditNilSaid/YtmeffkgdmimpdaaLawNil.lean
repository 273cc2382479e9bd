/-
  The walk of pantilelaw13.EditNil: it returns true.
-/
import Derived.Test.YtmeffkgdmimpdaaLawEdit
namespace Go.Proofs.Ytmeffkgdmimpdaa
open Go.RowKit
set_option linter.unusedVariables false
set_option linter.unusedSimpArgs false

set_option maxRecDepth 8000 in
theorem check_nil (v : Value) (w : World) : Calls Try.prog 10 #[.pointer none, v] w fun e w' => e = .returned (.int .i64 1) ∧ w' = w := by
  go_enter Try.func10, Try.ntmps10
  go_wp2_with fail
  go_ret
  exact ⟨rfl, rfl⟩
set_option maxRecDepth 8000 in
theorem fits_nil (v : Value) (w : World) : Calls Try.prog 6 #[.pointer none, v] w fun e w' => e = .returned (.tuple #[.bool false, .int .i64 1]) ∧ w' = w := by
  go_enter Try.func6, Try.ntmps6
  go_wp2_with fail
  refine (check_nil _ _).mono ?_
  rintro e w' ⟨rfl, rfl⟩
  go_wp2_with fail
  go_ret2
  exact ⟨rfl, rfl⟩
set_option maxRecDepth 8000 in
theorem do_nil (v : Value) (w : World) : Calls Try.prog 7 #[.pointer none, v] w fun e w' => e = .returned (.tuple #[.pointer none, .int .i64 1]) ∧ w' = w := by
  go_enter Try.func7, Try.ntmps7
  go_wp2_with fail
  refine (check_nil _ _).mono ?_
  rintro e w' ⟨rfl, rfl⟩
  go_wp2_with fail
  go_ret2
  exact ⟨rfl, rfl⟩
set_option maxRecDepth 8000 in
set_option maxHeartbeats 1000000 in
theorem editNil_any (l : List Ch) (v : Value) (w : World) (hl : RdC w v l) : Calls Try.prog 3 #[v] w fun e w' => e = .returned (.bool true) ∧ Below w.heap.size w w' := by
  have HH := Lib.hid (fun (w' : World) (h : RdC w' v l) => Heavy_any l 30 v w' h (by decide))
  have HL := Lib.hid hl
  clear hl
  cases eh : heavyB l 30
  all_goals
    rw [eh] at HH
    clear eh
    go_enter Try.func3, Try.ntmps3
    go_wp2_with fail
    refine (awake_any _).mono ?_
    rintro e w0 ⟨rfl, hb0⟩
    have HB0 := Lib.hid hb0
    clear hb0
    go_wp2_with fail
    refine (HH.out _ (HL.out.below HB0.out)).mono ?_
    rintro e w1 ⟨rfl, rfl⟩
    go_wp2_with fail
    first
      | (go_ret; exact ⟨rfl, HB0.out⟩)
      | (refine (fits_nil _ _).mono ?_
         rintro e w2 ⟨rfl, rfl⟩
         go_wp2_with fail
         refine (do_nil _ _).mono ?_
         rintro e w3 ⟨rfl, rfl⟩
         go_wp2_with fail
         go_ret
         exact ⟨rfl, HB0.out⟩)
end Go.Proofs.Ytmeffkgdmimpdaa
