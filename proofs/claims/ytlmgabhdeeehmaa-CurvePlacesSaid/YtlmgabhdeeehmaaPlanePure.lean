/-
  Motions of the plane, over whole numbers. No program.
-/
namespace Go.Proofs.Ytlmgabhdeeehmaa.Pl

/-- may a motion be? -/
def rightB (t x y : Int) : Bool := decide (0 ≤ t ∧ t ≤ 3 ∧ -2097152 ≤ x ∧ x ≤ 2097152 ∧ -2097152 ≤ y ∧ y ≤ 2097152)
/-- may a number be a coordinate? -/
def coordB (z : Int) : Bool := decide (0 ≤ z ∧ z < 1048576)
def smallB (xs : List Int) : Bool := match xs with | [x, y] => decide (x < 1048576 ∧ y < 1048576) | _ => false
/-- turned: the first, the second coordinate -/
def rotX (t x y : Int) : Int := if t = 0 then x else if t = 1 then -y else if t = 2 then -x else y
def rotY (t x y : Int) : Int := if t = 0 then y else if t = 1 then x else if t = 2 then -y else -x
def flipY (f : Bool) (y : Int) : Int := if f then -y else y
def turnX (t : Int) (f : Bool) (x y : Int) : Int := rotX t x (flipY f y)
def turnY (t : Int) (f : Bool) (x y : Int) : Int := rotY t x (flipY f y)

theorem rightB_iff {t x y : Int} : rightB t x y = true ↔ 0 ≤ t ∧ t ≤ 3 ∧ -2097152 ≤ x ∧ x ≤ 2097152 ∧ -2097152 ≤ y ∧ y ≤ 2097152 := by
  unfold rightB; exact decide_eq_true_iff
theorem smallB_iff {xs : List Int} : smallB xs = true ↔ ∃ x y, xs = [x, y] ∧ x < 1048576 ∧ y < 1048576 := by
  unfold smallB
  split
  · rename_i x y
    simp only [decide_eq_true_iff]
    exact ⟨fun h => ⟨x, y, rfl, h.1, h.2⟩, fun ⟨a, b, e, h1, h2⟩ => by injection e with e1 e2; injection e2 with e2 _; subst e1; subst e2; exact ⟨h1, h2⟩⟩
  · rename_i h
    simp only [Bool.false_eq_true, false_iff]
    rintro ⟨x, y, rfl, _⟩
    exact h x y rfl

theorem four {t : Int} (h0 : 0 ≤ t) (h3 : t ≤ 3) : t = 0 ∨ t = 1 ∨ t = 2 ∨ t = 3 := by omega

/-- as the multiplication of complex numbers has it -/
def unitX (t : Int) : Int := if t = 0 then 1 else if t = 2 then -1 else 0
def unitY (t : Int) : Int := if t = 1 then 1 else if t = 3 then -1 else 0
theorem rot_mul {t : Int} (h0 : 0 ≤ t) (h3 : t ≤ 3) (x y : Int) : unitX t * x - unitY t * y = rotX t x y ∧ unitX t * y + unitY t * x = rotY t x y := by
  rcases four h0 h3 with rfl | rfl | rfl | rfl <;> simp [unitX, unitY, rotX, rotY]

/-- the motion the other way round -/
def backT (t : Int) (f : Bool) : Int := if f then t else (-t) % 4
def backX (t : Int) (f : Bool) (x y : Int) : Int := -(turnX (backT t f) f x y)
def backY (t : Int) (f : Bool) (x y : Int) : Int := -(turnY (backT t f) f x y)
/-- one after the other -/
def thenT (t u : Int) (g : Bool) : Int := ((if g then -t else t) + u) % 4
def thenX (u : Int) (g : Bool) (a x y : Int) : Int := turnX u g x y + a
def thenY (u : Int) (g : Bool) (b x y : Int) : Int := turnY u g x y + b

theorem turn_bound {t : Int} {f : Bool} (h0 : 0 ≤ t) (h3 : t ≤ 3) {x y B : Int} (hx : -B ≤ x ∧ x ≤ B) (hy : -B ≤ y ∧ y ≤ B) :
    (-B ≤ turnX t f x y ∧ turnX t f x y ≤ B) ∧ (-B ≤ turnY t f x y ∧ turnY t f x y ≤ B) := by
  rcases four h0 h3 with rfl | rfl | rfl | rfl <;> cases f <;> simp [turnX, turnY, rotX, rotY, flipY] <;> omega

/-- what 'Move' tells: a point, a code -/
def moveR (t : Int) (f : Bool) (x y : Int) (p : List Int) : List Int × Int :=
  if rightB t x y = false then ([], 3) else
  match p with
  | [a, b] =>
    if smallB [a, b] = false then ([], 3) else
    if (coordB (turnX t f a b + x) && coordB (turnY t f a b + y)) = true then ([turnX t f a b + x, turnY t f a b + y], 0) else ([], 11)
  | _ => ([], 2)
theorem moveR_right {t x y : Int} (f : Bool) (p : List Int) (h : rightB t x y = false) : moveR t f x y p = ([], 3) := by unfold moveR; rw [if_pos h]
theorem moveR_dim {t x y : Int} (f : Bool) {p : List Int} (h : rightB t x y = true) (hp : p.length ≠ 2) : moveR t f x y p = ([], 2) := by
  unfold moveR; rw [if_neg (by simp [h])]
  match p, hp with
  | [], _ => rfl
  | [_], _ => rfl
  | [_, _], hp => exact absurd rfl hp
  | _ :: _ :: _ :: _, _ => rfl
theorem moveR_small {t x y a b : Int} (f : Bool) (h : rightB t x y = true) (hp : smallB [a, b] = false) : moveR t f x y [a, b] = ([], 3) := by
  unfold moveR; rw [if_neg (by simp [h])]; simp only [hp, if_true]
theorem moveR_long {t x y a b : Int} {f : Bool} (h : rightB t x y = true) (hp : smallB [a, b] = true) (hc : (coordB (turnX t f a b + x) && coordB (turnY t f a b + y)) = false) : moveR t f x y [a, b] = ([], 11) := by
  unfold moveR; rw [if_neg (by simp [h])]; simp only [hp, hc]; rfl
theorem moveR_fine {t x y a b : Int} {f : Bool} (h : rightB t x y = true) (hp : smallB [a, b] = true) (hc : (coordB (turnX t f a b + x) && coordB (turnY t f a b + y)) = true) : moveR t f x y [a, b] = ([turnX t f a b + x, turnY t f a b + y], 0) := by
  unfold moveR; rw [if_neg (by simp [h])]; simp only [hp, hc]; rfl

end Go.Proofs.Ytlmgabhdeeehmaa.Pl
