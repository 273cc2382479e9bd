/-
  Motions of the plane: what is done and undone; one behind the other. No program.
-/
import Derived.Test.YtlmgabhdeeehmaaPlanePure
namespace Go.Proofs.Ytlmgabhdeeehmaa.Pl

theorem cases4 {t : Int} {f : Bool} {C : Int → Bool → Prop} (h0 : 0 ≤ t) (h3 : t ≤ 3) (h : C 0 false ∧ C 1 false ∧ C 2 false ∧ C 3 false ∧ C 0 true ∧ C 1 true ∧ C 2 true ∧ C 3 true) : C t f := by
  rcases four h0 h3 with rfl | rfl | rfl | rfl <;> cases f <;> simp only [h]

theorem back_right {t x y : Int} (f : Bool) (h : rightB t x y = true) : rightB (backT t f) (backX t f x y) (backY t f x y) = true := by
  have hR := rightB_iff.1 h
  refine rightB_iff.2 ?_
  unfold backX backY
  have hb := turn_bound (f := f) (t := backT t f) (x := x) (y := y) (B := 2097152) (by unfold backT; split <;> omega) (by unfold backT; split <;> omega) (by omega) (by omega)
  refine ⟨by unfold backT; split <;> omega, by unfold backT; split <;> omega, by omega, by omega, by omega, by omega⟩

/-- moved back it is as it was -/
theorem back_move {t x y : Int} (f : Bool) (h0 : 0 ≤ t) (h3 : t ≤ 3) (a b : Int) :
    turnX (backT t f) f (turnX t f a b + x) (turnY t f a b + y) + backX t f x y = a ∧ turnY (backT t f) f (turnX t f a b + x) (turnY t f a b + y) + backY t f x y = b := by
  rcases four h0 h3 with rfl | rfl | rfl | rfl <;> cases f <;> simp [backX, backY, turnX, turnY, rotX, rotY, flipY, backT] <;> omega

theorem then_move {t u : Int} (f g : Bool) (h0 : 0 ≤ t) (h3 : t ≤ 3) (k0 : 0 ≤ u) (k3 : u ≤ 3) (x y c d a b : Int) :
    turnX u g (turnX t f a b + x) (turnY t f a b + y) + c = turnX (thenT t u g) (f != g) a b + thenX u g c x y ∧
    turnY u g (turnX t f a b + x) (turnY t f a b + y) + d = turnY (thenT t u g) (f != g) a b + thenY u g d x y := by
  rcases four h0 h3 with rfl | rfl | rfl | rfl <;> rcases four k0 k3 with rfl | rfl | rfl | rfl <;> cases f <;> cases g <;>
    simp [thenT, thenX, thenY, turnX, turnY, rotX, rotY, flipY] <;> omega

theorem thenT_range (t u : Int) (g : Bool) : 0 ≤ thenT t u g ∧ thenT t u g ≤ 3 := by unfold thenT; omega
theorem right_then {t u c d x y : Int} {g : Bool} : rightB (thenT t u g) (thenX u g c x y) (thenY u g d x y) = rightB 0 (turnX u g x y + c) (turnY u g x y + d) := by
  have := thenT_range t u g
  unfold rightB thenX thenY
  congr 1
  exact propext ⟨fun h => ⟨by omega, by omega, h.2.2⟩, fun h => ⟨by omega, by omega, h.2.2⟩⟩

theorem coordB_iff {z : Int} : coordB z = true ↔ 0 ≤ z ∧ z < 1048576 := by unfold coordB; exact decide_eq_true_iff

/-- moved, and back -/
theorem moveR_back {t x y a b : Int} {f : Bool} (h : rightB t x y = true) (hs : smallB [a, b] = true) (ha : 0 ≤ a) (hb : 0 ≤ b) (hc : (coordB (turnX t f a b + x) && coordB (turnY t f a b + y)) = true) :
    moveR (backT t f) f (backX t f x y) (backY t f x y) [turnX t f a b + x, turnY t f a b + y] = ([a, b], 0) := by
  have hR := rightB_iff.1 h
  simp only [Bool.and_eq_true, coordB_iff] at hc
  have hs' : a < 1048576 ∧ b < 1048576 := by simpa [smallB] using hs
  obtain ⟨e1, e2⟩ := back_move (x := x) (y := y) f hR.1 hR.2.1 a b
  have hq : smallB [turnX t f a b + x, turnY t f a b + y] = true := by simp [smallB]; omega
  have hc2 : (coordB (turnX (backT t f) f (turnX t f a b + x) (turnY t f a b + y) + backX t f x y) && coordB (turnY (backT t f) f (turnX t f a b + x) (turnY t f a b + y) + backY t f x y)) = true := by
    rw [e1, e2, Bool.and_eq_true, coordB_iff, coordB_iff]; omega
  rw [moveR_fine (back_right f h) hq hc2, e1, e2]

/-- one behind the other, and both at once -/
theorem moveR_then {t x y u c d a b : Int} {f g : Bool} (h : rightB t x y = true) (k : rightB u c d = true) (m : rightB (thenT t u g) (thenX u g c x y) (thenY u g d x y) = true)
    (hs : smallB [a, b] = true) (hc : (coordB (turnX t f a b + x) && coordB (turnY t f a b + y)) = true) :
    moveR u g c d [turnX t f a b + x, turnY t f a b + y] = moveR (thenT t u g) (f != g) (thenX u g c x y) (thenY u g d x y) [a, b] := by
  have hR := rightB_iff.1 h
  have hK := rightB_iff.1 k
  simp only [Bool.and_eq_true, coordB_iff] at hc
  have hq : smallB [turnX t f a b + x, turnY t f a b + y] = true := by simp [smallB]; omega
  obtain ⟨e1, e2⟩ := then_move f g hR.1 hR.2.1 hK.1 hK.2.1 x y c d a b
  cases hd : (coordB (turnX u g (turnX t f a b + x) (turnY t f a b + y) + c) && coordB (turnY u g (turnX t f a b + x) (turnY t f a b + y) + d)) with
  | true =>
    have hd' := hd
    rw [e1, e2] at hd'
    rw [moveR_fine k hq hd, moveR_fine m hs hd', e1, e2]
  | false =>
    have hd' := hd
    rw [e1, e2] at hd'
    rw [moveR_long k hq hd, moveR_long m hs hd']

/-- two points are as far from each other, moved -/
theorem far_move {t : Int} (f : Bool) (h0 : 0 ≤ t) (h3 : t ≤ 3) (x y a b c d : Int) :
    ((turnX t f a b + x) - (turnX t f c d + x)) * ((turnX t f a b + x) - (turnX t f c d + x)) + ((turnY t f a b + y) - (turnY t f c d + y)) * ((turnY t f a b + y) - (turnY t f c d + y)) = (a - c) * (a - c) + (b - d) * (b - d) := by
  have key : ∀ p q : Int, (p = a - c ∧ (q = b - d ∨ q = -(b - d)) ∨ p = -(a - c) ∧ (q = b - d ∨ q = -(b - d)) ∨ p = b - d ∧ (q = a - c ∨ q = -(a - c)) ∨ p = -(b - d) ∧ (q = a - c ∨ q = -(a - c))) → p * p + q * q = (a - c) * (a - c) + (b - d) * (b - d) := by
    intro p q h
    rcases h with ⟨rfl, rfl | rfl⟩ | ⟨rfl, rfl | rfl⟩ | ⟨rfl, rfl | rfl⟩ | ⟨rfl, rfl | rfl⟩ <;> (try simp only [Int.neg_mul_neg]) <;> first | rfl | exact Int.add_comm _ _
  apply key
  rcases four h0 h3 with rfl | rfl | rfl | rfl <;> cases f <;> simp [turnX, turnY, rotX, rotY, flipY] <;> omega

end Go.Proofs.Ytlmgabhdeeehmaa.Pl
