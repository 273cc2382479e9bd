/-
  The walks of pack: flags, begin, Changes.
-/
import Derived.Test.YtlmgabhdeeehmaaPkC
import Derived.Laws.IdiomStrings
namespace Go.Proofs.Ytlmgabhdeeehmaa
open Go.RowKit
set_option linter.unusedVariables false
set_option linter.unusedSimpArgs false

set_option maxRecDepth 8000 in
theorem flags_any (v : Value) (c : Ch) (w : World) : Calls Try.prog 95 #[AgC v c] w fun e w' => e = .returned (.int .u8 ((Pk.flag c : Nat) : Int)) ∧ Below w.heap.size w w' := by
  obtain ⟨p, had, has, old, new⟩ := c
  unfold AgC Pk.flag
  simp only
  have o1 : bits .or .u8 0 1 = 1 := by decide
  have o2 : bits .or .u8 0 2 = 2 := by decide
  have o3 : bits .or .u8 1 2 = 3 := by decide
  cases had <;> cases has
  all_goals
    go_enter Try.func95, Try.ntmps95
    go_wp2_with fail
    go_ret
    exact ⟨rfl, (by repeat (first | exact Below.refl _ _ | assumption | (refine Below.drew ?_) | (refine below_drewN' ?_ _) | (refine below_alloc' ?_ _)))⟩

/-- the bytes of a string of two letters -/
theorem OwnB.str2 {W w : World} (hb : W.heap.size ≤ w.heap.size) (a b : UInt8) {g : Nat} (hg : g = w.heap.size) (c : Nat) (hc : c = grownCap w 2 0 5) :
    OwnB W (w.drew.alloc (.cells (bytesRow ⟨#[a, b]⟩ c) 5 ((bytesRow ⟨#[a, b]⟩ c).size, (bytesRow ⟨#[a, b]⟩ c).size + 1))) (.slice (some ⟨g, 0, none⟩) 2 c) [a.toNat, b.toNat] := by
  subst hg
  have h2 : 2 ≤ c := by rw [hc]; exact grownCap_ge _ _ _ _
  have hm : c ≤ maxLen := by rw [hc]; exact grownCap_le_maxLen _ _ _ _ (by simp [maxLen])
  have hsz : (bytesRow ⟨#[a, b]⟩ c).size = c := by unfold bytesRow; simp [ByteArray.size]; omega
  have hh : (w.drew.alloc (.cells (bytesRow ⟨#[a, b]⟩ c) 5 ((bytesRow ⟨#[a, b]⟩ c).size, (bytesRow ⟨#[a, b]⟩ c).size + 1))).heap[w.heap.size]? = some (.cells (bytesRow ⟨#[a, b]⟩ c) 5 ((bytesRow ⟨#[a, b]⟩ c).size, (bytesRow ⟨#[a, b]⟩ c).size + 1)) := heap_alloc_new w.drew _
  refine .inr ⟨w.heap.size, c, _, _, rfl, hb, hh, ⟨h2, hm, hsz⟩, fun k hk => ?_, fun j hj => ?_⟩
  · unfold World.frozen?
    simp only [hh]
    rw [hsz]
    simp; omega
  · have hj2 : j < 2 := by simpa using hj
    have := bytesRow_at ⟨#[a, b]⟩ c j (by simpa using hj2)
    unfold World.cell?
    simp only [hh]
    simp only [Option.isSome_none, Bool.false_eq_true, if_false]
    rw [this]
    rcases (show j = 0 ∨ j = 1 by omega) with rfl | rfl <;> simp

def hd (a b k n : Nat) : List Nat := [a, b] ++ Pk.leb k ++ Pk.leb n
def BegP (W : World) (bs last : List Nat) (e : Ending) (w' : World) : Prop := ∃ G, e = .returned (.pointer (some ⟨G, 0, none⟩)) ∧ InvW W G bs last w'
set_option maxRecDepth 8000 in
set_option maxHeartbeats 1000000 in
theorem begin_any (a b : UInt8) (k n : Nat) (w : World) (hk : k ≤ 16) (hn : n ≤ 1000) :
    Calls Try.prog 93 #[.string ⟨#[a, b]⟩, .int .i64 (k : Nat), .int .i64 (n : Nat)] w fun e w' => BegP w (hd a.toNat b.toNat k n) (Pk.zeros k) e w' := by
  have hconv : ∀ w : World, (convert 9 73 (.string ⟨#[a, b]⟩)).run Try.prog w = .ok (.slice (some ⟨w.heap.size, 0, none⟩) 2 (grownCap w 2 0 5)) (w.drew.alloc (.cells (bytesRow ⟨#[a, b]⟩ (grownCap w 2 0 5)) 5 ((bytesRow ⟨#[a, b]⟩ (grownCap w 2 0 5)).size, (bytesRow ⟨#[a, b]⟩ (grownCap w 2 0 5)).size + 1))) := fun w =>
    run_bytes_of_string w 9 73 5 ⟨#[a, b]⟩ Try.underlying9 Try.underlying73 Try.underlying5
  have HS := Lib.hid (show OwnB w (w.alloc (.cells (bytesRow ⟨#[a, b]⟩ (grownCap w 2 0 5)) 5 ((bytesRow ⟨#[a, b]⟩ (grownCap w 2 0 5)).size, (bytesRow ⟨#[a, b]⟩ (grownCap w 2 0 5)).size + 1))).drew _ _ from OwnB.str2 (W := w) (w := w) (Nat.le_refl _) a b rfl (grownCap w 2 0 5) rfl)
  have hw1 : IntKind.u64.wrap (k : Int) = (k : Int) := by unfold IntKind.wrap; simp [IntKind.bits, IntKind.signed]; omega
  have hw2 : IntKind.u64.wrap (n : Int) = (n : Int) := by unfold IntKind.wrap; simp [IntKind.bits, IntKind.signed]; omega
  have HD := Lib.hid (And.intro hk hn)
  clear hk hn
  go_enter Try.func93, Try.ntmps93
  go_wp2_with ((at_make; refine wpList_make_zeros rfl _ _ rfl k rfl rfl ?_ ?_))
  · have := HD.out.1; omega
  intro w5 hz5 hb5
  generalize grownCap w 2 0 5 = gc at *
  have HO := Lib.hid (HS.out.below (hb5.mono (by simp)))
  have HB := Lib.hid ((show Below w.heap.size w _ from (below_alloc' (Below.refl _ w) (.cells (bytesRow ⟨#[a, b]⟩ gc) 5 ((bytesRow ⟨#[a, b]⟩ gc).size, (bytesRow ⟨#[a, b]⟩ gc).size + 1))).drew).trans (hb5.mono (by simp)))
  have HZ := Lib.hid hz5
  have hs5 : w.heap.size ≤ w5.heap.size := HB.out.size
  clear hz5 hb5 hconv
  go_wp2_with fail
  have hI0 : InvW w w5.heap.size [a.toNat, b.toNat] (Pk.zeros k) (w5.alloc (.cells #[.slice (some ⟨w.heap.size, 0, none⟩) 2 gc, .slice (some ⟨w.heap.size + 1, 0, none⟩) k k] 133)) :=
    ⟨_, _, heap_alloc_new _ _, HO.out.alloc _, .inr (HZ.out.below (below_alloc' (Below.refl _ _) _)), below_alloc' HB.out _, hs5⟩
  have HI0 := Lib.hid hI0
  clear hI0
  refine (wNumber_any w _ w5.heap.size k _ _ HI0.out (by have := HD.out.1; omega) (by simp)).mono ?_
  rintro e w6 ⟨rfl, hI6, _⟩
  have HI6 := Lib.hid hI6
  clear hI6
  go_wp2_with fail
  refine (wNumber_any w _ w5.heap.size n _ _ HI6.out (by have := HD.out.2; omega) (by have := Pk.leb_length k; simp; omega)).mono ?_
  rintro e w7 ⟨rfl, hI7, _⟩
  have HI7 := Lib.hid hI7
  clear hI7
  go_wp2_with fail
  go_ret
  exact ⟨_, rfl, HI7.out⟩
end Go.Proofs.Ytlmgabhdeeehmaa
