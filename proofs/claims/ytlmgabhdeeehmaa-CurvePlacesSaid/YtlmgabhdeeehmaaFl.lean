import Ieee.Arith
namespace Fl
open Ieee
set_option maxRecDepth 4000

theorem lp : double.leastPlace = -1074 := by decide
theorem bin : double.binade = 2 ^ 52 := rfl
theorem inf : double.infRung = 2047 * 2 ^ 52 := by decide
theorem sw : double.signWeight = 2 ^ 63 := by decide

theorem even_cut_zero (neg : Bool) (n : Nat) : Toward.even.cut neg n 0 = n := by
  unfold Toward.cut
  simp [Nat.mod_one]

theorem even_cut_exact (way : Toward) (neg : Bool) (n d : Nat) (h : d ≤ (n * 2 ^ d).log2 + 2) : way.cut neg (n * 2 ^ d) d = n := by
  unfold Toward.cut
  have hm : min d ((n * 2 ^ d).log2 + 2) = d := by omega
  simp only [hm, Nat.shiftLeft_eq, Nat.one_mul]
  have hp : 0 < 2 ^ d := Nat.two_pow_pos d
  rw [Nat.mul_div_cancel _ hp, Nat.mul_mod_left]
  have : ¬ 2 ^ d < 2 * 0 := by omega
  cases way <;> simp

theorem log2_mul_pow (n d : Nat) (h : n ≠ 0) : (n * 2 ^ d).log2 = n.log2 + d := by
  induction d with
  | zero => simp
  | succ d ih =>
    have hp : 0 < n * 2 ^ d := Nat.mul_pos (by omega) (Nat.two_pow_pos d)
    have : n * 2 ^ (d + 1) = 2 * (n * 2 ^ d) := by rw [Nat.pow_succ]; ac_rfl
    rw [this, Nat.log2_two_mul (by omega), ih]
    omega

/-- The rung of n / 2^p, n below 2^53. -/
def rungOf (p n : Nat) : Nat := if n = 0 then 0 else (n.log2 + 1022 - p) * 2 ^ 52 + n * 2 ^ (52 - n.log2)

theorem log2_lt (n : Nat) (h : n < 2 ^ 53) : n.log2 ≤ 52 := by
  by_cases h0 : n = 0
  · subst h0; simp
  · have := (Nat.log2_lt h0).2 h
    omega

theorem kept_bounds (n : Nat) (h0 : n ≠ 0) (h : n < 2 ^ 53) : 2 ^ 52 ≤ n * 2 ^ (52 - n.log2) ∧ n * 2 ^ (52 - n.log2) < 2 ^ 53 := by
  have hl := log2_lt n h
  have hb : 2 ^ n.log2 ≤ n := Nat.log2_self_le h0
  have hb2 : n < 2 ^ (n.log2 + 1) := Nat.lt_log2_self
  refine ⟨?_, ?_⟩
  · calc 2 ^ 52 = 2 ^ n.log2 * 2 ^ (52 - n.log2) := by rw [← Nat.pow_add]; congr 1; omega
      _ ≤ _ := Nat.mul_le_mul_right _ hb
  · calc n * 2 ^ (52 - n.log2) < 2 ^ (n.log2 + 1) * 2 ^ (52 - n.log2) := Nat.mul_lt_mul_of_pos_right hb2 (Nat.two_pow_pos _)
        _ = 2 ^ 53 := by rw [← Nat.pow_add]; congr 1; omega

theorem arith1 (A B : Nat) (h : A ≤ 1074 * 2 ^ 52) (hB : B < 2 ^ 53) : A + B ≤ 2047 * 2 ^ 52 := by
  rw [show (2 : Nat) ^ 52 = 4503599627370496 from rfl] at *
  rw [show (2 : Nat) ^ 53 = 9007199254740992 from rfl] at hB
  omega
theorem arith2 (A B : Nat) (h : A ≤ 1074 * 2 ^ 52) (hB : B < 2 ^ 53) : A + B < 2 ^ 63 := by
  rw [show (2 : Nat) ^ 52 = 4503599627370496 from rfl] at *
  rw [show (2 : Nat) ^ 53 = 9007199254740992 from rfl] at hB
  rw [show (2 : Nat) ^ 63 = 9223372036854775808 from rfl]
  omega
theorem arith3 (A B : Nat) (hB1 : 2 ^ 52 ≤ B) : A + B = (A + 1 * 2 ^ 52) + (B - 2 ^ 52) := by
  rw [show (2 : Nat) ^ 52 = 4503599627370496 from rfl] at *
  omega

theorem nearest_exact (p : Nat) (hp : p ≤ 100) (neg : Bool) (n d : Nat) (h : n < 2 ^ 53) : double.nearest neg (n * 2 ^ d) (-((d + p : Nat) : Int)) = double.word neg (rungOf p n) := by
  by_cases h0 : n = 0
  · subst h0
    simp [Format.nearest, rungOf]
  · have hl := log2_lt n h
    have hp' : 0 < n * 2 ^ d := Nat.mul_pos (by omega) (Nat.two_pow_pos d)
    have hne : n * 2 ^ d ≠ 0 := by omega
    unfold Format.nearest
    rw [if_neg hne]
    simp only [lp, bin, inf]
    rw [log2_mul_pow n d h0]
    have hlast : max (-((d + p : Nat) : Int) + ((n.log2 + d : Nat) : Int) - (double.fractionBits : Int)) (-1074) = (n.log2 : Int) - 52 - p := by
      show max (-((d + p : Nat) : Int) + ((n.log2 + d : Nat) : Int) - 52) (-1074) = (n.log2 : Int) - 52 - p
      omega
    rw [hlast]
    have h3 : (((n.log2 : Int) - 52 - p) - (-1074)).toNat = n.log2 + 1022 - p := by omega
    rw [h3]
    obtain ⟨hk1, hk⟩ := kept_bounds n h0 h
    have key : Toward.even.cut neg ((n * 2 ^ d) <<< (-((d + p : Nat) : Int) - ((n.log2 : Int) - 52 - p)).toNat) (((n.log2 : Int) - 52 - p) - (-((d + p : Nat) : Int))).toNat = n * 2 ^ (52 - n.log2) := by
      by_cases hd : n.log2 + d ≤ 52
      · have e1 : (-((d + p : Nat) : Int) - ((n.log2 : Int) - 52 - p)).toNat = 52 - n.log2 - d := by omega
        have e2 : (((n.log2 : Int) - 52 - p) - (-((d + p : Nat) : Int))).toNat = 0 := by omega
        rw [e1, e2, even_cut_zero, Nat.shiftLeft_eq, Nat.mul_assoc, ← Nat.pow_add]
        congr 2; omega
      · have e1 : (-((d + p : Nat) : Int) - ((n.log2 : Int) - 52 - p)).toNat = 0 := by omega
        have e2 : (((n.log2 : Int) - 52 - p) - (-((d + p : Nat) : Int))).toNat = n.log2 + d - 52 := by omega
        rw [e1, e2, Nat.shiftLeft_zero]
        have e3 : n * 2 ^ d = (n * 2 ^ (52 - n.log2)) * 2 ^ (n.log2 + d - 52) := by
          rw [Nat.mul_assoc, ← Nat.pow_add]; congr 2; omega
        rw [e3]
        apply even_cut_exact
        rw [← e3, log2_mul_pow n d h0]; omega
    rw [key]
    have hle : (n.log2 + 1022 - p) * 2 ^ 52 ≤ 1074 * 2 ^ 52 := Nat.mul_le_mul_right _ (by omega)
    have : min ((n.log2 + 1022 - p) * 2 ^ 52 + n * 2 ^ (52 - n.log2)) (2047 * 2 ^ 52) = rungOf p n := by
      rw [rungOf, if_neg h0]
      apply Nat.min_eq_left
      exact arith1 _ _ hle hk
    rw [this]

/-- The datum stands for z / 2^p. -/
def DVal (p : Nat) (d : Datum) (z : Int) : Prop := ∃ s n k, d = .number s (n * 2 ^ k) (-((k + p : Nat) : Int)) ∧ z = if s then -(n : Int) else n

/-- The word stands for z / 2^p. -/
def PVal (p : Nat) (b : Nat) (z : Int) : Prop := DVal p (double.read b) z
/-- The word stands for z. -/
def Val (b : Nat) (z : Int) : Prop := PVal 0 b z

theorem read_word (p : Nat) (hp : p ≤ 100) (neg : Bool) (n : Nat) (h : n < 2 ^ 53) : ∃ k, double.read (double.word neg (rungOf p n)) = .number neg (n * 2 ^ k) (-((k + p : Nat) : Int)) := by
  have hr : ∀ r, r < 2 ^ 63 → (double.word neg r / double.signWeight % 2 == 1) = neg ∧ double.word neg r % double.signWeight = r := by
    intro r hr
    simp only [Format.word, sw]
    cases neg
    · simp only [Bool.false_eq_true, if_false]
      refine ⟨?_, by omega⟩
      have : r / 2 ^ 63 = 0 := by omega
      rw [this]; rfl
    · simp only [if_true]
      refine ⟨?_, by omega⟩
      have : (2 ^ 63 + r) / 2 ^ 63 = 1 := by omega
      rw [this]; rfl
  by_cases h0 : n = 0
  · subst h0
    refine ⟨1074 - p, ?_⟩
    obtain ⟨e1, e2⟩ := hr 0 (by omega)
    have e3 : rungOf p 0 = 0 := by simp [rungOf]
    rw [e3]
    unfold Format.read
    simp only [e1, e2, bin, lp]
    rw [if_pos (by omega)]
    simp only [Nat.zero_mul, Datum.number.injEq, true_and]
    omega
  · have hl := log2_lt n h
    refine ⟨52 - n.log2, ?_⟩
    obtain ⟨hk1, hk⟩ := kept_bounds n h0 h
    have hle : (n.log2 + 1022 - p) * 2 ^ 52 ≤ 1074 * 2 ^ 52 := Nat.mul_le_mul_right _ (by omega)
    have hA : 1 ≤ n.log2 + 1022 - p := by omega
    have hr' : rungOf p n < 2 ^ 63 := by
      rw [rungOf, if_neg h0]
      exact arith2 _ _ hle hk
    obtain ⟨e1, e2⟩ := hr _ hr'
    have e3 : rungOf p n = (n.log2 + 1022 - p + 1) * 2 ^ 52 + (n * 2 ^ (52 - n.log2) - 2 ^ 52) := by
      rw [rungOf, if_neg h0, Nat.add_mul]
      exact arith3 _ _ hk1
    have e4 : rungOf p n / 2 ^ 52 = n.log2 + 1022 - p + 1 := by
      rw [e3]
      generalize (n.log2 + 1022 - p + 1) = A
      generalize hB : n * 2 ^ (52 - n.log2) - 2 ^ 52 = B
      have : B < 2 ^ 52 := by omega
      omega
    have e5 : rungOf p n % 2 ^ 52 = n * 2 ^ (52 - n.log2) - 2 ^ 52 := by
      rw [e3]
      generalize (n.log2 + 1022 - p + 1) = A
      generalize hB : n * 2 ^ (52 - n.log2) - 2 ^ 52 = B
      have : B < 2 ^ 52 := by omega
      omega
    unfold Format.read
    simp only [e1, e2, bin, lp, inf]
    rw [if_neg (by omega), if_pos (by omega), e4, e5]
    simp only [Datum.number.injEq, true_and]
    refine ⟨by omega, by omega⟩

theorem write_val (p : Nat) (hp : p ≤ 100) {d : Datum} {z : Int} (h : DVal p d z) (hz : z.natAbs < 2 ^ 53) : PVal p (double.write d) z := by
  obtain ⟨s, n, k, rfl, rfl⟩ := h
  have hn : n < 2 ^ 53 := by cases s <;> simpa using hz
  have e : double.write (.number s (n * 2 ^ k) (-((k + p : Nat) : Int))) = double.nearest s (n * 2 ^ k) (-((k + p : Nat) : Int)) := rfl
  rw [e, nearest_exact p hp s n k hn]
  obtain ⟨k', hk'⟩ := read_word p hp s n hn
  exact ⟨s, n, k', hk', rfl⟩

theorem signed_eq (s : Bool) (m u : Nat) : signed s m u = (if s then -(m : Int) else m) * 2 ^ u := by
  unfold signed
  cases s
  · simp [Nat.shiftLeft_eq]
  · simp [Nat.shiftLeft_eq, Int.neg_mul]

theorem sum_val (p : Nat) {x y : Datum} {a b : Int} (hx : DVal p x a) (hy : DVal p y b) : ∃ d, x.sum y = some d ∧ DVal p d (a + b) := by
  obtain ⟨s, n, i, rfl, rfl⟩ := hx
  obtain ⟨t, m, j, rfl, rfl⟩ := hy
  refine ⟨_, rfl, ?_⟩
  have hb : min (-((i + p : Nat) : Int)) (-((j + p : Nat) : Int)) = -((max i j + p : Nat) : Int) := by omega
  have h1 : (-((i + p : Nat) : Int) - -((max i j + p : Nat) : Int)).toNat = max i j - i := by omega
  have h2 : (-((j + p : Nat) : Int) - -((max i j + p : Nat) : Int)).toNat = max i j - j := by omega
  simp only [hb, h1, h2, signed_eq]
  have p1 : ((if s then -((n * 2 ^ i : Nat) : Int) else ((n * 2 ^ i : Nat) : Int))) * 2 ^ (max i j - i) = (if s then -(n : Int) else n) * 2 ^ (max i j) := by
    have : (2 : Int) ^ (max i j) = 2 ^ i * 2 ^ (max i j - i) := by rw [← Int.pow_add]; congr 1; omega
    rw [this]
    cases s <;> simp [Int.mul_assoc, Int.neg_mul]
  have p2 : ((if t then -((m * 2 ^ j : Nat) : Int) else ((m * 2 ^ j : Nat) : Int))) * 2 ^ (max i j - j) = (if t then -(m : Int) else m) * 2 ^ (max i j) := by
    have : (2 : Int) ^ (max i j) = 2 ^ j * 2 ^ (max i j - j) := by rw [← Int.pow_add]; congr 1; omega
    rw [this]
    cases t <;> simp [Int.mul_assoc, Int.neg_mul]
  rw [p1, p2, ← Int.add_mul]
  generalize (if s then -(n : Int) else n) + (if t then -(m : Int) else m) = A
  have hpos : (0 : Int) < 2 ^ max i j := Int.pow_pos (by omega)
  refine ⟨_, A.natAbs, max i j, rfl.trans (by rw [Int.natAbs_mul, Int.natAbs_pow]; rfl), ?_⟩
  by_cases hA : A = 0
  · subst hA; simp
  · have hne : A * 2 ^ max i j ≠ 0 := Int.mul_ne_zero hA (by omega)
    rw [if_neg hne]
    by_cases hneg : A < 0
    · have : A * 2 ^ max i j < 0 := Int.mul_neg_of_neg_of_pos hneg hpos
      simp [this]; omega
    · have : ¬ A * 2 ^ max i j < 0 := by
        have := Int.mul_nonneg (show 0 ≤ A by omega) (Int.le_of_lt hpos)
        omega
      simp [this]; omega

theorem opposite_val (p : Nat) {x : Datum} {a : Int} (hx : DVal p x a) : DVal p x.opposite (-a) := by
  obtain ⟨s, n, i, rfl, rfl⟩ := hx
  exact ⟨!s, n, i, rfl, by cases s <;> simp⟩

theorem product_val {x y : Datum} {a b : Int} (hx : DVal 0 x a) (hy : DVal 0 y b) : ∃ d, x.product y = some d ∧ DVal 0 d (a * b) := by
  obtain ⟨s, n, i, rfl, rfl⟩ := hx
  obtain ⟨t, m, j, rfl, rfl⟩ := hy
  refine ⟨_, rfl, s ^^ t, n * m, i + j, ?_, ?_⟩
  · simp only [Datum.number.injEq, true_and]
    exact ⟨by rw [Nat.pow_add]; ac_rfl, by omega⟩
  · cases s <;> cases t <;> simp [Int.neg_mul, Int.mul_neg]

theorem add_val {x y : Nat} {a b : Int} (hx : Val x a) (hy : Val y b) (h : (a + b).natAbs < 2 ^ 53) : ∃ r, double.add x y = some r ∧ Val r (a + b) := by
  obtain ⟨d, hd, hv⟩ := sum_val 0 hx hy
  exact ⟨_, by unfold Format.add; rw [hd]; rfl, write_val 0 (by omega) hv h⟩
theorem sub_val {x y : Nat} {a b : Int} (hx : Val x a) (hy : Val y b) (h : (a - b).natAbs < 2 ^ 53) : ∃ r, double.sub x y = some r ∧ Val r (a - b) := by
  obtain ⟨d, hd, hv⟩ := sum_val 0 hx (opposite_val 0 hy)
  exact ⟨_, by unfold Format.sub; rw [hd]; rfl, write_val 0 (by omega) hv h⟩
theorem mul_val {x y : Nat} {a b : Int} (hx : Val x a) (hy : Val y b) (h : (a * b).natAbs < 2 ^ 53) : ∃ r, double.mul x y = some r ∧ Val r (a * b) := by
  obtain ⟨d, hd, hv⟩ := product_val hx hy
  exact ⟨_, by unfold Format.mul; rw [hd]; rfl, write_val 0 (by omega) hv h⟩

theorem nearest_val {n : Int} (h : n.natAbs < 2 ^ 53) : Val (double.write (.number (decide (n < 0)) n.natAbs 0)) n := by
  refine write_val 0 (by omega) ⟨decide (n < 0), n.natAbs, 0, by simp, ?_⟩ h
  by_cases hn : n < 0
  · simp [hn]; omega
  · simp [hn]; omega

theorem compare_mul (a b c : Int) (h : 0 < c) : compare (a * c) (b * c) = compare a b := by
  rcases Int.lt_trichotomy a b with hl | rfl | hl
  · rw [Int.compare_eq_lt.2 (Int.mul_lt_mul_of_pos_right hl h), Int.compare_eq_lt.2 hl]
  · rw [Int.compare_eq_eq.2 rfl, Int.compare_eq_eq.2 rfl]
  · rw [Int.compare_eq_gt.2 (Int.mul_lt_mul_of_pos_right hl h), Int.compare_eq_gt.2 hl]

theorem order_dval (p q : Nat) {x y : Datum} {a b : Int} (hx : DVal p x a) (hy : DVal q y b) : x.order y = some (compare (a * 2 ^ q) (b * 2 ^ p)) := by
  obtain ⟨s, n, i, rfl, rfl⟩ := hx
  obtain ⟨t, m, j, rfl, rfl⟩ := hy
  unfold Datum.order
  have hb : min (-((i + p : Nat) : Int)) (-((j + q : Nat) : Int)) = -((max (i + p) (j + q) : Nat) : Int) := by omega
  have h1 : (-((i + p : Nat) : Int) - -((max (i + p) (j + q) : Nat) : Int)).toNat = max (i + p) (j + q) - (i + p) := by omega
  have h2 : (-((j + q : Nat) : Int) - -((max (i + p) (j + q) : Nat) : Int)).toNat = max (i + p) (j + q) - (j + q) := by omega
  simp only [hb, h1, h2, signed_eq]
  generalize hM : max (i + p) (j + q) = M
  have hM1 : i + p ≤ M := by omega
  have hM2 : j + q ≤ M := by omega
  have hpos : (0 : Int) < 2 ^ (p + q) := Int.pow_pos (by omega)
  rw [← compare_mul _ _ _ hpos]
  congr 1
  have e1 : ((if s then -((n * 2 ^ i : Nat) : Int) else ((n * 2 ^ i : Nat) : Int))) * 2 ^ (M - (i + p)) * 2 ^ (p + q) = ((if s then -(n : Int) else n) * 2 ^ q) * 2 ^ M := by
    have : (2 : Int) ^ i * 2 ^ (M - (i + p)) * 2 ^ (p + q) = 2 ^ q * 2 ^ M := by
      rw [← Int.pow_add, ← Int.pow_add, ← Int.pow_add]; congr 1; omega
    rw [Int.mul_assoc (if s = true then -(n : Int) else n), ← this]
    cases s
    · simp only [Bool.false_eq_true, if_false]
      push_cast; ac_rfl
    · simp only [if_true]
      push_cast; simp only [Int.neg_mul]; congr 1; ac_rfl
  have e2 : ((if t then -((m * 2 ^ j : Nat) : Int) else ((m * 2 ^ j : Nat) : Int))) * 2 ^ (M - (j + q)) * 2 ^ (p + q) = ((if t then -(m : Int) else m) * 2 ^ p) * 2 ^ M := by
    have : (2 : Int) ^ j * 2 ^ (M - (j + q)) * 2 ^ (p + q) = 2 ^ p * 2 ^ M := by
      rw [← Int.pow_add, ← Int.pow_add, ← Int.pow_add]; congr 1; omega
    rw [Int.mul_assoc (if t = true then -(m : Int) else m), ← this]
    cases t
    · simp only [Bool.false_eq_true, if_false]
      push_cast; ac_rfl
    · simp only [if_true]
      push_cast; simp only [Int.neg_mul]; congr 1; ac_rfl
  rw [e1, e2]
  exact compare_mul _ _ _ (Int.pow_pos (by omega))

theorem order_val {x y : Nat} {a b : Int} (hx : Val x a) (hy : Val y b) : double.order x y = some (compare a b) := by
  have := order_dval 0 0 hx hy
  simpa [Format.order] using this

theorem log2_le_self (n : Nat) (h : n ≠ 0) : 0 < n := by omega

theorem integral_val {x : Datum} {a : Int} (way : Toward) (hx : DVal 0 x a) : DVal 0 (x.integral way) a := by
  obtain ⟨s, n, i, rfl, rfl⟩ := hx
  refine ⟨s, n, 0, ?_, rfl⟩
  unfold Datum.integral
  simp only [Datum.number.injEq, true_and, Nat.pow_zero, Nat.mul_one]
  refine ⟨?_, by simp⟩
  have h1 : (-((i + 0 : Nat) : Int)).toNat = 0 := by omega
  have h2 : (- -((i + 0 : Nat) : Int)).toNat = i := by omega
  rw [h1, h2, Nat.shiftLeft_zero]
  by_cases h0 : n = 0
  · subst h0
    simp only [Nat.zero_mul]
    unfold Toward.cut
    cases way <;> simp
  · exact even_cut_exact way s n i (by rw [log2_mul_pow n i h0]; omega)

theorem integral_form (way : Toward) (s : Bool) (n i : Nat) : (Datum.number s (n * 2 ^ i) (-((i + 0 : Nat) : Int))).integral way = .number s n 0 := by
  unfold Datum.integral
  have h1 : (-((i + 0 : Nat) : Int)).toNat = 0 := by omega
  have h2 : (- -((i + 0 : Nat) : Int)).toNat = i := by omega
  simp only [h1, h2, Nat.shiftLeft_zero, Datum.number.injEq, true_and, and_true]
  by_cases h0 : n = 0
  · subst h0
    simp only [Nat.zero_mul]
    unfold Toward.cut
    cases way <;> simp
  · exact even_cut_exact way s n i (by rw [log2_mul_pow n i h0]; omega)

theorem toInt_val {x : Nat} {a : Int} (way : Toward) (hx : Val x a) : (double.read x).toInt way = some a := by
  obtain ⟨s, n, i, h, rfl⟩ := hx
  rw [h]
  unfold Datum.toInt
  rw [integral_form]
  simp [signed_eq]

theorem trunc_val {x : Nat} {a : Int} (way : Toward) (hx : Val x a) (h : a.natAbs < 2 ^ 53) : Val (double.write ((double.read x).integral way)) a :=
  write_val 0 (by omega) (integral_val way hx) h

theorem not_nan {p x : Nat} {a : Int} (hx : PVal p x a) : ∃ s m e, double.read x = .number s m e := by
  obtain ⟨s, n, i, h, _⟩ := hx
  exact ⟨_, _, _, h⟩

theorem read_mag_lt {b : Nat} {s : Bool} {m : Nat} {e : Int} (h : double.read b = .number s m e) : m < 2 ^ 53 := by
  unfold Format.read at h
  simp only [bin, inf, lp, sw] at h
  split at h
  · rename_i h1
    injection h with _ h2 _
    have : (2 : Nat) ^ 52 < 2 ^ 53 := by decide
    omega
  · split at h
    · injection h with _ h2 _
      have h3 : b % 2 ^ 63 % 2 ^ 52 < 2 ^ 52 := Nat.mod_lt _ (by decide)
      rw [← h2]
      generalize b % 2 ^ 63 % 2 ^ 52 = A at *
      rw [show (2 : Nat) ^ 53 = 2 ^ 52 + 2 ^ 52 from rfl]
      omega
    · split at h <;> cases h

theorem two_read : double.read 4611686018427387904 = .number false (2 ^ 52) (-51) := by decide

theorem half_val {x : Nat} {a : Int} (hx : Val x a) (ha : a.natAbs < 2 ^ 53) : ∃ r, double.div x 4611686018427387904 = some r ∧ PVal 1 r a := by
  obtain ⟨s, n, k, h, rfl⟩ := hx
  have hm := read_mag_lt h
  have hlog : (n * 2 ^ k).log2 ≤ 52 := log2_lt _ hm
  unfold Format.div
  rw [h, two_read]
  unfold Datum.quotient
  have hne : ¬ (2 ^ 52 : Nat) = 0 := by decide
  have hl52 : (2 ^ 52 : Nat).log2 = 52 := by decide
  simp only [hne, if_false, hl52]
  obtain ⟨more, hmore, h54⟩ : ∃ more, more = double.fractionBits + 2 + 52 - (n * 2 ^ k).log2 ∧ 54 ≤ more := ⟨_, rfl, by show 54 ≤ 52 + 2 + 52 - _; omega⟩
  rw [← hmore]
  have e1 : (n * 2 ^ k) <<< more = (n * 2 ^ (k + more - 52)) * 2 ^ 52 := by
    rw [Nat.shiftLeft_eq, Nat.mul_assoc, Nat.mul_assoc, ← Nat.pow_add, ← Nat.pow_add]
    congr 2; omega
  rw [e1, Nat.mul_div_cancel _ (by decide), Nat.mul_mod_left]
  refine ⟨_, rfl, ?_⟩
  refine write_val 1 (by omega) ⟨s, n, k + more - 51, ?_, rfl⟩ ha
  simp only [Bool.bne_false, Datum.number.injEq, true_and]
  refine ⟨?_, by omega⟩
  have : (2 : Nat) ^ (k + more - 51) = 2 * 2 ^ (k + more - 52) := by
    rw [show k + more - 51 = (k + more - 52) + 1 by omega, Nat.pow_succ]; ac_rfl
  rw [this]
  simp
  ac_rfl

theorem even_half {r : Nat} {m : Int} (h : PVal 1 r (2 * m)) : Val r m := by
  obtain ⟨s, n, k, h, e⟩ := h
  refine ⟨s, n / 2, k + 1, ?_, ?_⟩
  · rw [h]
    refine Datum.number.injEq .. |>.mpr ⟨rfl, ?_, by omega⟩
    have : n = 2 * (n / 2) := by
      cases s
      · have e2 : 2 * m = (n : Int) := e
        omega
      · have e2 : 2 * m = -(n : Int) := e
        omega
    rw [Nat.pow_succ]
    conv => lhs; rw [this]
    ac_rfl
  · cases s
    · have e2 : 2 * m = (n : Int) := e
      show m = ((n / 2 : Nat) : Int)
      omega
    · have e2 : 2 * m = -(n : Int) := e
      show m = -((n / 2 : Nat) : Int)
      omega

theorem odd_trunc {r : Nat} {a : Int} (h : PVal 1 r a) (ha : a.natAbs < 2 ^ 53) (ho : a % 2 ≠ 0) :
    ∃ z : Int, Val (double.write ((double.read r).integral .zero)) z ∧ double.order r (double.write ((double.read r).integral .zero)) ≠ some .eq := by
  have hr := h
  obtain ⟨s, n, k, h, rfl⟩ := h
  have hn : n < 2 ^ 53 := by cases s <;> simpa using ha
  have hi : (double.read r).integral .zero = .number s (n / 2) 0 := by
    rw [h]
    unfold Datum.integral
    have h1 : (-((k + 1 : Nat) : Int)).toNat = 0 := by omega
    have h2 : (- -((k + 1 : Nat) : Int)).toNat = k + 1 := by omega
    simp only [h1, h2, Nat.shiftLeft_zero, Datum.number.injEq, true_and, and_true]
    unfold Toward.cut
    have hn0 : n ≠ 0 := by rintro rfl; cases s <;> simp at ho
    have hm : min (k + 1) ((n * 2 ^ k).log2 + 2) = k + 1 := by rw [log2_mul_pow n k hn0]; omega
    simp only [hm, Nat.shiftLeft_eq, Nat.one_mul, Nat.pow_succ]
    rw [Nat.mul_comm (2 ^ k) 2, Nat.mul_div_mul_right n 2 (Nat.two_pow_pos k)]
    simp
  rw [hi]
  have hv : Val (double.write (.number s (n / 2) 0)) (if s then -((n / 2 : Nat) : Int) else (n / 2 : Nat)) :=
    write_val 0 (by omega) ⟨s, n / 2, 0, by simp, rfl⟩ (by cases s <;> simp <;> omega)
  refine ⟨_, hv, ?_⟩
  unfold Format.order
  rw [order_dval 1 0 hr hv]
  intro e
  have e2 := Int.compare_eq_eq.1 (Option.some.inj e)
  cases s <;> simp at e2 ho <;> omega

end Fl
