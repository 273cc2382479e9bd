/-
  The curve through all points of a square, over whole numbers. No program.
-/
set_option linter.unusedVariables false
namespace Go.Proofs.Ytlmgabhdeeehmaa.Cv
/-- the side, and the square, of a curve -/
def S (n : Nat) : Int := 2 ^ n
def Q (n : Nat) : Int := 4 ^ n
theorem S_succ (n : Nat) : S (n + 1) = 2 * S n := by unfold S; rw [Int.pow_succ]; omega
theorem Q_succ (n : Nat) : Q (n + 1) = 4 * Q n := by unfold Q; rw [Int.pow_succ]; omega
theorem S_pos (n : Nat) : 0 < S n := Int.pow_pos (by omega)
theorem Q_pos (n : Nat) : 0 < Q n := Int.pow_pos (by omega)
theorem SS (n : Nat) : S n * S n = Q n := by
  induction n with
  | zero => rfl
  | succ n ih => rw [S_succ, Q_succ, ← ih, show (4 : Int) = 2 * 2 from rfl]; ac_rfl

/-- a point out of the smaller curve's, by its quarter -/
def up (s q : Int) (r : Int × Int) : Int × Int :=
  if q = 0 then (r.2, r.1) else if q = 1 then (r.1, r.2 + s) else if q = 2 then (r.1 + s, r.2 + s) else (2 * s - 1 - r.2, s - 1 - r.1)
def pt : Nat → Int → Int × Int
  | 0, _ => (0, 0)
  | n + 1, p => up (S n) (p / Q n) (pt n (p % Q n))
/-- in which quarter -/
def quar (s x y : Int) : Int := if x < s then (if y < s then 0 else 1) else (if s ≤ y then 2 else 3)
def down (s x y : Int) : Int × Int :=
  if x < s then (if y < s then (y, x) else (x, y - s)) else (if s ≤ y then (x - s, y - s) else (s - 1 - y, 2 * s - 1 - x))
def pl : Nat → Int → Int → Int
  | 0, _, _ => 0
  | n + 1, x, y => quar (S n) x y * Q n + pl n (down (S n) x y).1 (down (S n) x y).2

theorem quar_range (s x y : Int) : 0 ≤ quar s x y ∧ quar s x y ≤ 3 := by unfold quar; split <;> split <;> omega
set_option linter.unusedVariables false in
theorem down_range {s x y : Int} (hx : 0 ≤ x ∧ x < 2 * s) (hy : 0 ≤ y ∧ y < 2 * s) : (0 ≤ (down s x y).1 ∧ (down s x y).1 < s) ∧ (0 ≤ (down s x y).2 ∧ (down s x y).2 < s) := by
  unfold down; split <;> split <;> simp only <;> omega
theorem up_range {s q : Int} {r : Int × Int} (h1 : 0 ≤ r.1 ∧ r.1 < s) (h2 : 0 ≤ r.2 ∧ r.2 < s) : (0 ≤ (up s q r).1 ∧ (up s q r).1 < 2 * s) ∧ (0 ≤ (up s q r).2 ∧ (up s q r).2 < 2 * s) := by
  unfold up; split <;> (try split) <;> (try split) <;> simp only <;> omega
theorem up_down {s x y : Int} (hx : 0 ≤ x ∧ x < 2 * s) (hy : 0 ≤ y ∧ y < 2 * s) : up s (quar s x y) (down s x y) = (x, y) := by
  unfold up quar down
  by_cases h1 : x < s <;> by_cases h2 : y < s
  · simp [h1, h2]
  · simp [h1, h2]
  · have : ¬ s ≤ y := by omega
    simp [h1, this]; omega
  · have : s ≤ y := by omega
    simp [h1, this]
theorem down_up {s q : Int} {r : Int × Int} (h1 : 0 ≤ r.1 ∧ r.1 < s) (h2 : 0 ≤ r.2 ∧ r.2 < s) (hq : 0 ≤ q ∧ q ≤ 3) :
    quar s (up s q r).1 (up s q r).2 = q ∧ down s (up s q r).1 (up s q r).2 = r := by
  obtain ⟨a, b⟩ := r
  simp only at h1 h2
  have : q = 0 ∨ q = 1 ∨ q = 2 ∨ q = 3 := by omega
  rcases this with rfl | rfl | rfl | rfl
  · have e1 : b < s := by omega
    have e2 : a < s := by omega
    simp [up, quar, down, e1, e2]
  · have e1 : a < s := by omega
    have e2 : ¬ b + s < s := by omega
    simp [up, quar, down, e1, e2] <;> omega
  · have e1 : ¬ a + s < s := by omega
    have e2 : s ≤ b + s := by omega
    simp [up, quar, down, e1, e2] <;> omega
  · have e1 : ¬ 2 * s - 1 - b < s := by omega
    have e2 : ¬ s ≤ s - 1 - a := by omega
    simp [up, quar, down, e1, e2] <;> omega

theorem pt_range (n : Nat) (p : Int) : (0 ≤ (pt n p).1 ∧ (pt n p).1 < S n) ∧ (0 ≤ (pt n p).2 ∧ (pt n p).2 < S n) := by
  induction n generalizing p with
  | zero => simp [pt, S]
  | succ n ih => rw [S_succ]; exact up_range (ih _).1 (ih _).2
theorem pl_range (n : Nat) (x y : Int) (hx : 0 ≤ x ∧ x < S n) (hy : 0 ≤ y ∧ y < S n) : 0 ≤ pl n x y ∧ pl n x y < Q n := by
  induction n generalizing x y with
  | zero => simp [pl, Q]
  | succ n ih =>
    rw [S_succ] at hx hy
    have hd := down_range hx hy
    have := ih _ _ hd.1 hd.2
    have hq := quar_range (S n) x y
    rw [Q_succ]
    unfold pl
    have h4 : quar (S n) x y = 0 ∨ quar (S n) x y = 1 ∨ quar (S n) x y = 2 ∨ quar (S n) x y = 3 := by omega
    rcases h4 with e | e | e | e <;> rw [e] <;> omega
theorem pt_pl (n : Nat) (x y : Int) (hx : 0 ≤ x ∧ x < S n) (hy : 0 ≤ y ∧ y < S n) : pt n (pl n x y) = (x, y) := by
  induction n generalizing x y with
  | zero => simp [S] at hx hy; simp [pt]; omega
  | succ n ih =>
    rw [S_succ] at hx hy
    have hd := down_range hx hy
    have h1 := pl_range n _ _ hd.1 hd.2
    have h2 := ih _ _ hd.1 hd.2
    have hp := Q_pos n
    unfold pt pl
    rw [Int.add_comm, Int.mul_comm, Int.add_mul_ediv_left _ _ (by omega), Int.add_mul_emod_self_left, Int.ediv_eq_zero_of_lt h1.1 h1.2, Int.emod_eq_of_lt h1.1 h1.2, h2, Int.zero_add]
    exact up_down hx hy
theorem pl_pt (n : Nat) (p : Int) (h : 0 ≤ p ∧ p < Q n) : pl n (pt n p).1 (pt n p).2 = p := by
  induction n generalizing p with
  | zero => simp [Q] at h; simp [pl]; omega
  | succ n ih =>
    rw [Q_succ] at h
    have hp := Q_pos n
    have hr := pt_range n (p % Q n)
    have hq : 0 ≤ p / Q n ∧ p / Q n ≤ 3 := ⟨Int.ediv_nonneg h.1 (by omega), by
      have : p / Q n < 4 := Int.ediv_lt_of_lt_mul hp (by omega)
      omega⟩
    obtain ⟨d1, d2⟩ := down_up (q := p / Q n) hr.1 hr.2 hq
    have hm : 0 ≤ p % Q n ∧ p % Q n < Q n := ⟨Int.emod_nonneg _ (by omega), Int.emod_lt_of_pos _ hp⟩
    unfold pl pt
    rw [d1, d2, ih _ hm, Int.mul_comm]
    exact Int.mul_ediv_add_emod p (Q n)

/-- the ends -/
theorem pt_zero (n : Nat) : pt n 0 = (0, 0) := by
  induction n with
  | zero => rfl
  | succ n ih => unfold pt; rw [Int.zero_ediv, Int.zero_emod, ih]; rfl
theorem pt_last (n : Nat) : pt n (Q n - 1) = (S n - 1, 0) := by
  induction n with
  | zero => rfl
  | succ n ih =>
    have hp := Q_pos n
    rw [Q_succ, S_succ]
    unfold pt
    have e1 : (4 * Q n - 1) / Q n = 3 := by
      rw [show 4 * Q n - 1 = (Q n - 1) + Q n * 3 by omega, Int.add_mul_ediv_left _ _ (by omega), Int.ediv_eq_zero_of_lt (by omega) (by omega)]; rfl
    have e2 : (4 * Q n - 1) % Q n = Q n - 1 := by
      rw [show 4 * Q n - 1 = (Q n - 1) + Q n * 3 by omega, Int.add_mul_emod_self_left, Int.emod_eq_of_lt (by omega) (by omega)]
    rw [e1, e2, ih]
    simp [up] <;> omega

def far (r t : Int × Int) : Int := (r.1 - t.1) * (r.1 - t.1) + (r.2 - t.2) * (r.2 - t.2)
theorem up_far (s q : Int) (r t : Int × Int) : far (up s q r) (up s q t) = far r t := by
  obtain ⟨a, b⟩ := r
  obtain ⟨c, d⟩ := t
  unfold up far
  have k1 : ∀ u v w : Int, u + w - (v + w) = u - v := by intros; omega
  have k2 : ∀ u v w : Int, (w - u - (w - v)) * (w - u - (w - v)) = (u - v) * (u - v) := by
    intro u v w
    have : w - u - (w - v) = -(u - v) := by omega
    rw [this, Int.neg_mul_neg]
  split
  · exact Int.add_comm _ _
  · split
    · simp only [k1]
    · split
      · simp only [k1]
      · simp only [k2]; exact Int.add_comm _ _

/-- one step along the curve -/
theorem pt_step (n : Nat) (p : Int) (h : 0 ≤ p ∧ p + 1 < Q n) : far (pt n p) (pt n (p + 1)) = 1 := by
  induction n generalizing p with
  | zero => simp [Q] at h; omega
  | succ n ih =>
    rw [Q_succ] at h
    have hp := Q_pos n
    have hq : 0 ≤ p / Q n ∧ p / Q n ≤ 3 := ⟨Int.ediv_nonneg h.1 (by omega), by
      have : p / Q n < 4 := Int.ediv_lt_of_lt_mul hp (by omega)
      omega⟩
    have hm : 0 ≤ p % Q n ∧ p % Q n < Q n := ⟨Int.emod_nonneg _ (by omega), Int.emod_lt_of_pos _ hp⟩
    have hpd : p = Q n * (p / Q n) + p % Q n := (Int.mul_ediv_add_emod p (Q n)).symm
    generalize hqq : p / Q n = q at *
    generalize hmm : p % Q n = m at *
    by_cases hl : m + 1 < Q n
    · have e1 : (p + 1) / Q n = q := by
        rw [hpd, show Q n * q + m + 1 = (m + 1) + Q n * q by omega, Int.add_mul_ediv_left _ _ (by omega), Int.ediv_eq_zero_of_lt (by omega) hl, Int.zero_add]
      have e2 : (p + 1) % Q n = m + 1 := by
        rw [hpd, show Q n * q + m + 1 = (m + 1) + Q n * q by omega, Int.add_mul_emod_self_left, Int.emod_eq_of_lt (by omega) hl]
      unfold pt
      rw [hqq, hmm, e1, e2, up_far]
      exact ih m ⟨hm.1, hl⟩
    · have hm1 : m = Q n - 1 := by omega
      have e1 : (p + 1) / Q n = q + 1 := by
        rw [hpd, hm1, show Q n * q + (Q n - 1) + 1 = 0 + Q n * (q + 1) by rw [Int.mul_add]; omega, Int.add_mul_ediv_left _ _ (by omega), Int.zero_ediv, Int.zero_add]
      have e2 : (p + 1) % Q n = 0 := by
        rw [hpd, hm1, show Q n * q + (Q n - 1) + 1 = 0 + Q n * (q + 1) by rw [Int.mul_add]; omega, Int.add_mul_emod_self_left, Int.zero_emod]
      have hq2 : q ≤ 2 := by
        by_cases h3 : q < 3
        · omega
        · have : q = 3 := by omega
          subst this; omega
      unfold pt
      rw [hqq, hmm, e1, e2, hm1, pt_last, pt_zero]
      have : q = 0 ∨ q = 1 ∨ q = 2 := by omega
      have hs := S_pos n
      rcases this with rfl | rfl | rfl
      · simp [up, far]
        rw [show S n - 1 - S n = -1 by omega]; rfl
      · simp [up, far]
        rw [show S n - 1 - S n = -1 by omega]; rfl
      · simp [up, far]
        rw [show S n - 1 + S n - (2 * S n - 1) = 0 by omega, show S n - (S n - 1) = 1 by omega]; rfl
theorem S_le {k : Nat} (h : k ≤ 20) : S k ≤ 1048576 := by
  have h1 : k = 0 ∨ k = 1 ∨ k = 2 ∨ k = 3 ∨ k = 4 ∨ k = 5 ∨ k = 6 ∨ k = 7 ∨ k = 8 ∨ k = 9 ∨ k = 10 ∨ k = 11 ∨ k = 12 ∨ k = 13 ∨ k = 14 ∨ k = 15 ∨ k = 16 ∨ k = 17 ∨ k = 18 ∨ k = 19 ∨ k = 20 := by omega
  rcases h1 with rfl | rfl | rfl | rfl | rfl | rfl | rfl | rfl | rfl | rfl | rfl | rfl | rfl | rfl | rfl | rfl | rfl | rfl | rfl | rfl | rfl <;> decide
theorem pt_round (k : Nat) (p q : Int) (h : p / Q k % 4 = q) : pt (k + 1) (p % Q (k + 1)) = up (S k) q (pt k (p % Q k)) := by
  have hp := Q_pos k
  have e1 : p % Q (k + 1) % Q k = p % Q k := by
    rw [Q_succ]; exact Int.emod_emod_of_dvd _ ⟨4, by rw [Int.mul_comm]⟩
  have e2 : p % Q (k + 1) / Q k = p / Q k % 4 := by
    have a1 := Int.mul_ediv_add_emod p (Q k)
    have a2 := Int.mul_ediv_add_emod (p / Q k) 4
    have a3 := Int.emod_nonneg p (by omega : Q k ≠ 0)
    have a4 := Int.emod_lt_of_pos p hp
    have a5 := Int.emod_nonneg (p / Q k) (by omega : (4 : Int) ≠ 0)
    have a6 := Int.emod_lt_of_pos (p / Q k) (by omega : (0 : Int) < 4)
    have e : p = (p % Q k + Q k * (p / Q k % 4)) + 4 * Q k * (p / Q k / 4) := by
      rw [Int.mul_comm 4, Int.mul_assoc, Int.add_assoc, ← Int.mul_add, Int.add_comm (p / Q k % 4), a2]; omega
    have b1 : 0 ≤ Q k * (p / Q k % 4) := Int.mul_nonneg (by omega) a5
    have b2 : Q k * (p / Q k % 4) ≤ Q k * 3 := Int.mul_le_mul_of_nonneg_left (by omega) (by omega)
    have e3 : p % (4 * Q k) = p % Q k + Q k * (p / Q k % 4) := by
      conv => lhs; rw [e]
      rw [Int.add_mul_emod_self_left, Int.emod_eq_of_lt (by omega) (by omega)]
    rw [Q_succ, e3, Int.add_mul_ediv_left _ _ (by omega), Int.ediv_eq_zero_of_lt a3 a4]; omega
  rw [← h]
  show up (S k) (p % Q (k + 1) / Q k) (pt k (p % Q (k + 1) % Q k)) = _
  rw [e1, e2]
end Go.Proofs.Ytlmgabhdeeehmaa.Cv
