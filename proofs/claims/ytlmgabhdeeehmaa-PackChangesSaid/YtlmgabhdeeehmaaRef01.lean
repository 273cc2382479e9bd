/-
  The walks of package pantileref01.
-/
import Derived.Test.YtlmgabhdeeehmaaProg
import Derived.Test.YtlmgabhdeeehmaaBase
namespace Go.Proofs.Ytlmgabhdeeehmaa
open Go.RowKit
set_option linter.unusedVariables false

/-- so far alike -/
def AlikeTo (xs ys : List Int) (k : Nat) : Prop := ∀ j, j < k → xs[j]? = ys[j]?
theorem alikeTo_end {xs ys : List Int} {k : Nat} (h : AlikeTo xs ys k) (hk : xs.length ≤ k) (hl : xs.length = ys.length) : xs = ys := by
  apply List.ext_getElem? ; intro j
  by_cases hj : j < k
  · exact h j hj
  · rw [List.getElem?_eq_none (by omega), List.getElem?_eq_none (by omega)]

set_option maxHeartbeats 400000 in
theorem Same_any (va vb : Value) (xs ys : List Int) (w : World) (ha : RdU w va xs) (hb : RdU w vb ys) (hl : xs.length < 9223372036854775807) :
    Calls Try.prog 19 #[va, vb] w fun e w' => e = .returned (.bool (decide (xs = ys))) ∧ ∃ n, w' = w.drewN n := by
  obtain ⟨A, c, rfl, ga⟩ := ha.slice
  obtain ⟨B, d, rfl, gb⟩ := hb.slice
  clear ha hb
  by_cases hxy : xs.length = ys.length
  · have hne : ((xs.length : Int) != (ys.length : Int)) = false := by simp [hxy]
    have HD : Hid (xs.length = ys.length) := hxy
    clear hxy
    go_enter Try.func19, Try.ntmps19
    go_wp2
    go_loopw [5, 14] (fun i t wr => ∃ k n : Nat, k ≤ xs.length ∧ i = .int .i64 k ∧ wr = w.drewN n ∧ AlikeTo xs ys k) (fun i t _ => xs.length - (intOf i).toNat)
    case atStart => exact ⟨0, 0, Nat.zero_le _, rfl, rfl, fun j hj => by omega⟩
    case round =>
      obtain ⟨k, n, hk, rfl, rfl, hal⟩ := hrel
      by_cases hlt : k < xs.length
      · have hyk : k < ys.length := by have := HD.out; omega
        obtain ⟨b, o, rfl, hc⟩ := ga (by omega)
        obtain ⟨b2, o2, rfl, hc2⟩ := gb (by omega)
        have h1 := hc k hlt
        have h2 := hc2 k hyk
        have h3 : (k : Int) < (xs.length : Int) := by omega
        have h4 : (k : Int) < (ys.length : Int) := by omega
        have h5 : (0 : Int) ≤ (k : Int) := by omega
        clear ga gb hc hc2
        by_cases he : xs[k] = ys[k]
        · have hev : (xs[k] != ys[k]) = false := by simp [he]
          have HE : Hid (xs[k] = ys[k]) := he
          clear he
          go_wp2
          go_quiet (fail)
          go_wp2
          go_roundw
          case rel => exact ⟨k + 1, n + nq, by omega, by go_num, by first | rfl | exact World.drewN_drewN .., fun j hj => by
            by_cases hjk : j < k
            · exact hal j hjk
            · obtain rfl : j = k := by omega
              rw [List.getElem?_eq_getElem hlt, List.getElem?_eq_getElem hyk, HE.out]⟩
          case measure => simp [intOf]; omega
        · have hev : (xs[k] != ys[k]) = true := by simp [he]
          have hn : decide (xs = ys) = false := by
            simp only [decide_eq_false_iff_not]; intro h; subst h; exact he rfl
          clear he
          go_wp2
          go_quiet (fail)
          go_wp2
          go_ret
          exact ⟨ret_bool hn.symm, n + nq, by first | rfl | exact World.drewN_drewN ..⟩
      · have hy : decide (xs = ys) = true := by
          simp only [decide_eq_true_iff]; exact alikeTo_end hal (by omega) HD.out
        go_wp2
        go_ret
        exact ⟨ret_bool hy.symm, n, rfl⟩
  · have hne : ((xs.length : Int) != (ys.length : Int)) = true := by simp; omega
    have hn : decide (xs = ys) = false := by
      simp only [decide_eq_false_iff_not]; intro h; subst h; exact hxy rfl
    clear hxy ga gb
    go_enter Try.func19, Try.ntmps19
    go_wp2
    go_ret
    exact ⟨ret_bool hn.symm, 0, rfl⟩

end Go.Proofs.Ytlmgabhdeeehmaa
