/-
  What a slice of whole numbers reads as. No program.
-/
import Derived.WalkKit
import Derived.WalkSpells
import Derived.WalkLawsBesides
import Derived.Deep.QuietTactic
import Derived.BigQuiet
import Derived.Deep.RegionHeld3
import Derived.KernelRfl
import Derived.Lib.Hide
namespace Go
open Go.RowKit
set_option linter.unusedVariables false

/-- The slice value v reads as xs, one cell each. -/
def Sl (w : World) (v : Value) (xs : List Value) : Prop :=
  ∃ A c, v = .slice A xs.length c ∧ (0 < xs.length → ∃ b o, A = some ⟨b, o, none⟩ ∧ ∀ j (h : j < xs.length), w.cell? ⟨b, o + j, none⟩ = some xs[j])

/-- v reads as the list xs of uint64. -/
def RdU (w : World) (v : Value) (xs : List Int) : Prop := Sl w v (xs.map (.int .u64))

theorem Sl.keep {w w' : World} {v : Value} {xs : List Value} (h : Sl w v xs) (hk : ∀ a x, w.cell? a = some x → w'.cell? a = some x) : Sl w' v xs := by
  obtain ⟨A, c, e, h⟩ := h
  exact ⟨A, c, e, fun hp => let ⟨b, o, ha, hc⟩ := h hp; ⟨b, o, ha, fun j hj => hk _ _ (hc j hj)⟩⟩

theorem Below.keeps {w w' : World} (h : Below w.heap.size w w') : ∀ a x, w.cell? a = some x → w'.cell? a = some x := fun a x hx =>
  (h.cell (World.block_lt_of_cell? w a hx)).trans hx

theorem Sl.below {w w' : World} {v : Value} {xs : List Value} (h : Sl w v xs) (hb : Below w.heap.size w w') : Sl w' v xs := h.keep (Below.keeps hb)
theorem RdU.below {w w' : World} {v : Value} {xs : List Int} (h : RdU w v xs) (hb : Below w.heap.size w w') : RdU w' v xs := Sl.below h hb
theorem RdU.keep {w w' : World} {v : Value} {xs : List Int} (h : RdU w v xs) (hk : ∀ a x, w.cell? a = some x → w'.cell? a = some x) : RdU w' v xs := Sl.keep h hk
theorem RdU.drewN {w : World} {v : Value} {xs : List Int} (h : RdU w v xs) (n : Nat) : RdU (w.drewN n) v xs := by
  unfold RdU at *; exact Sl.keep h (fun a x hx => by simpa using hx)

theorem RdU.slice {w : World} {v : Value} {xs : List Int} (h : RdU w v xs) : ∃ A c, v = .slice A xs.length c ∧ (0 < xs.length → ∃ b o, A = some ⟨b, o, none⟩ ∧ ∀ j (h : j < xs.length), w.cell? ⟨b, o + j, none⟩ = some (.int .u64 xs[j])) := by
  obtain ⟨A, c, e, h⟩ := h
  simp only [List.length_map, List.getElem_map] at e h
  exact ⟨A, c, e, h⟩
theorem RdU.mk {w : World} {A : Option Addr} {c : Nat} {xs : List Int} (h : 0 < xs.length → ∃ b o, A = some ⟨b, o, none⟩ ∧ ∀ j (h : j < xs.length), w.cell? ⟨b, o + j, none⟩ = some (.int .u64 xs[j])) : RdU w (.slice A xs.length c) xs := by
  refine ⟨A, c, by simp, ?_⟩
  simp only [List.length_map, List.getElem_map]
  exact h
theorem RdU.nil (w : World) (A : Option Addr) (c : Nat) : RdU w (.slice A 0 c) [] := ⟨A, c, rfl, fun h => absurd h (by simp)⟩
theorem RdU.one {w : World} {b o c : Nat} {x : Int} (h : w.cell? ⟨b, o, none⟩ = some (.int .u64 x)) : RdU w (.slice (some ⟨b, o, none⟩) 1 c) [x] :=
  RdU.mk (xs := [x]) fun _ => ⟨b, o, rfl, fun j hj => by simp at hj; subst hj; simpa using h⟩
theorem RdU.two {w : World} {b o c : Nat} {x y : Int} (h : w.cell? ⟨b, o, none⟩ = some (.int .u64 x)) (h1 : w.cell? ⟨b, o + 1, none⟩ = some (.int .u64 y)) : RdU w (.slice (some ⟨b, o, none⟩) 2 c) [x, y] :=
  RdU.mk (xs := [x, y]) fun _ => ⟨b, o, rfl, fun j hj => by
    have : j = 0 ∨ j = 1 := by simp at hj; omega
    rcases this with rfl | rfl
    · simpa using h
    · simpa using h1⟩
theorem RdU.new2 {W : World} {x y : Int} {t : TypeId} {c g : Nat} (h : g = W.heap.size) : RdU (W.alloc (.cells #[.int .u64 x, .int .u64 y] t)) (.slice (some ⟨g, 0, none⟩) 2 c) [x, y] := by
  subst h
  exact RdU.two (World.cell?_alloc_new _ _ _ _) (World.cell?_alloc_new _ _ _ _)
theorem RdU.of_two {w : World} {v : Value} {x y : Int} (h : RdU w v [x, y]) : ∃ b o c, v = .slice (some ⟨b, o, none⟩) 2 c ∧ w.cell? ⟨b, o, none⟩ = some (.int .u64 x) ∧ w.cell? ⟨b, o + 1, none⟩ = some (.int .u64 y) := by
  obtain ⟨A, c, e, hs⟩ := h.slice
  obtain ⟨b, o, rfl, hc⟩ := hs (by simp)
  exact ⟨b, o, c, e, by simpa using hc 0 (by simp), by simpa using hc 1 (by simp)⟩

/-- a slice of uint64 that came in -/
theorem RdU.of_row {w : World} {a : Option Addr} {len cap : Nat} {zs : List Int}
    (h : (a = none ∧ len = 0 ∧ cap = 0 ∧ zs = []) ∨ ∃ x, a = some x ∧ len ≤ cap ∧ cap ≤ maxLen ∧ zs.length = cap ∧ (∀ i, i < zs.length → w.cell? (x.add i) = some (.int .u64 (zs.getD i 0))) ∧ ∀ n ∈ zs, (Lit.int .u64 n).wf = true) :
    ∃ xs : List Int, xs.length = len ∧ len ≤ maxLen ∧ (∀ x ∈ xs, 0 ≤ x ∧ x ≤ 18446744073709551615) ∧ RdU w (.slice a len cap) xs := by
  rcases h with ⟨rfl, rfl, rfl, rfl⟩ | ⟨x, rfl, hl, hm, hz, hc, hw⟩
  · exact ⟨[], rfl, Nat.zero_le _, fun x hx => by simp at hx, RdU.nil _ _ _⟩
  · refine ⟨zs.take len, by simp; omega, by omega, fun y hy => ?_, ?_⟩
    · have := hw y (List.mem_of_mem_take hy)
      simpa [Lit.wf, IntKind.min, IntKind.max, IntKind.signed, IntKind.bits] using this
    · have hlen : (zs.take len).length = len := by simp; omega
      have key : RdU w (.slice (some x) (zs.take len).length cap) (zs.take len) := by
        refine RdU.mk fun hp => ?_
        have h0 := hc 0 (by omega)
        obtain ⟨b, o, sp⟩ := x
        have hs : sp = none := by
          cases sp with
          | none => rfl
          | some q => simp [Addr.add, World.cell?] at h0; split at h0 <;> cases h0
        subst hs
        refine ⟨b, o, rfl, fun j hj => ?_⟩
        have := hc j (by omega)
        have e : (⟨b, o, none⟩ : Addr).add j = ⟨b, o + j, none⟩ := by
          unfold Addr.add; split
          · rename_i h; subst h; rfl
          · rfl
        rw [e] at this
        rw [this, List.getElem_take, List.getD_eq_getElem?_getD, List.getElem?_eq_getElem (by omega)]
        rfl
      rwa [hlen] at key

/-- The world is the old one, some orders having been drawn. -/
theorem drewN_below (w : World) (n : Nat) : Below w.heap.size w (w.drewN n) := ⟨rfl, rfl, rfl, Nat.le_refl _, fun _ _ => rfl⟩
theorem below_trans {w w1 w2 : World} (h : Below w.heap.size w w1) (k : Below w1.heap.size w1 w2) : Below w.heap.size w w2 := h.trans (k.mono h.size)
theorem below_alloc' {w w1 : World} (h : Below w.heap.size w w1) (o : Obj) : Below w.heap.size w (w1.alloc o) := h.alloc h.size o
theorem below_drewN' {w w1 : World} (h : Below w.heap.size w w1) (n : Nat) : Below w.heap.size w (w1.drewN n) := below_trans h (drewN_below _ _)

theorem bool_ext {a b : Bool} (h : a = true ↔ b = true) : a = b := Bool.eq_iff_iff.2 h
theorem ret_bool {a b : Bool} (h : a = b) : Ending.returned (.bool a) = Ending.returned (.bool b) := by rw [h]
theorem ret_int {k : IntKind} {a b : Int} (h : a = b) : Ending.returned (.int k a) = Ending.returned (.int k b) := by rw [h]
end Go
