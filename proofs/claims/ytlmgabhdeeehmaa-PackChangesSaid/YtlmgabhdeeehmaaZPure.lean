/-
  The z-order of points, over natural numbers. No program.
-/
set_option linter.unusedVariables false
namespace Go.Proofs.Ytlmgabhdeeehmaa.Zb
/-- a bit of a number -/
def bit (u at' : Nat) : Nat := u / 2 ^ at' % 2
/-- the address of a point at a level: the first coordinate is the highest bit -/
def addr : List Nat → Nat → Nat
  | [], _ => 0
  | c :: p, n => bit c n * 2 ^ p.length + addr p n
/-- all levels below n, as one number -/
def key (p : List Nat) : Nat → Nat
  | 0 => 0
  | n + 1 => addr p n * (2 ^ p.length) ^ n + key p n
/-- the highest level below n at which two points part -/
def part (p q : List Nat) : Nat → Int
  | 0 => -1
  | n + 1 => if addr p n ≠ addr q n then n else part p q n

theorem key_succ (p : List Nat) (n : Nat) : key p (n + 1) = addr p n * (2 ^ p.length) ^ n + key p n := rfl
theorem part_succ (p q : List Nat) (n : Nat) : part p q (n + 1) = if addr p n ≠ addr q n then (n : Int) else part p q n := rfl
theorem bit_lt (u n : Nat) : bit u n < 2 := Nat.mod_lt _ (by omega)
theorem addr_lt (p : List Nat) (n : Nat) : addr p n < 2 ^ p.length := by
  induction p with
  | nil => simp [addr]
  | cons c p ih =>
    have := bit_lt c n
    unfold addr
    rw [List.length_cons, Nat.pow_succ]
    have h : bit c n = 0 ∨ bit c n = 1 := by omega
    rcases h with h | h <;> rw [h] <;> omega
theorem key_lt (p : List Nat) (n : Nat) : key p n < (2 ^ p.length) ^ n := by
  induction n with
  | zero => simp [key]
  | succ n ih =>
    have h := addr_lt p n
    unfold key
    rw [Nat.pow_succ]
    generalize (2 ^ p.length) ^ n = M at *
    generalize 2 ^ p.length = B at *
    have : addr p n * M + M ≤ M * B := by
      rw [← Nat.succ_mul, Nat.mul_comm M]
      exact Nat.mul_le_mul_right M h
    omega
/-- a number of two digits -/
theorem two_digits {a b x y M : Nat} (hx : x < M) (hy : y < M) : (a * M + x < b * M + y ↔ a < b ∨ a = b ∧ x < y) ∧ (a * M + x = b * M + y ↔ a = b ∧ x = y) := by
  rcases Nat.lt_trichotomy a b with h | h | h
  · have : a * M + M ≤ b * M := by rw [← Nat.succ_mul]; exact Nat.mul_le_mul_right M h
    constructor <;> constructor <;> intro <;> omega
  · subst h; constructor <;> constructor <;> intro <;> omega
  · have : b * M + M ≤ a * M := by rw [← Nat.succ_mul]; exact Nat.mul_le_mul_right M h
    constructor <;> constructor <;> intro <;> omega
theorem key_succ_lt {p q : List Nat} (hl : p.length = q.length) (n : Nat) : (key p (n + 1) < key q (n + 1) ↔ addr p n < addr q n ∨ addr p n = addr q n ∧ key p n < key q n) ∧ (key p (n + 1) = key q (n + 1) ↔ addr p n = addr q n ∧ key p n = key q n) := by
  have h1 := key_lt p n
  have h2 := key_lt q n
  rw [key_succ, key_succ, hl]
  rw [hl] at h1
  exact two_digits h1 h2
theorem part_key {p q : List Nat} (hl : p.length = q.length) (n : Nat) :
    (part p q n = -1 ∧ key p n = key q n) ∨ ∃ m : Nat, m < n ∧ part p q n = m ∧ addr p m ≠ addr q m ∧ key p n ≠ key q n ∧ (key p n < key q n ↔ addr p m < addr q m) := by
  induction n with
  | zero => exact .inl ⟨rfl, rfl⟩
  | succ n ih =>
    obtain ⟨h1, h2⟩ := key_succ_lt hl n
    by_cases h : addr p n = addr q n
    · have e : part p q (n + 1) = part p q n := by rw [part_succ, if_neg (by omega)]
      rw [e]
      rcases ih with ⟨i1, i2⟩ | ⟨m, hm, i1, i2, i3, i4⟩
      · exact .inl ⟨i1, h2.2 ⟨h, i2⟩⟩
      · refine .inr ⟨m, by omega, i1, i2, fun hk => i3 (h2.1 hk).2, ?_⟩
        rw [h1, ← i4]
        constructor
        · rintro (h' | h') <;> omega
        · intro h'; exact .inr ⟨h, h'⟩
    · refine .inr ⟨n, by omega, by rw [part_succ, if_pos h], h, fun hk => h (h2.1 hk).1, ?_⟩
      rw [h1]
      constructor
      · rintro (h' | h') <;> omega
      · intro h'; exact .inl h'
theorem key_all {p q : List Nat} (hl : p.length = q.length) (n : Nat) : key p n = key q n ↔ ∀ m, m < n → addr p m = addr q m := by
  induction n with
  | zero => simp [key]
  | succ n ih =>
    rw [(key_succ_lt hl n).2, ih]
    constructor
    · rintro ⟨h, h'⟩ m hm
      by_cases e : m = n
      · subst e; exact h
      · exact h' m (by omega)
    · intro h; exact ⟨h n (by omega), fun m hm => h m (by omega)⟩
theorem addr_eq {p q : List Nat} (hl : p.length = q.length) (n : Nat) : addr p n = addr q n ↔ p.map (bit · n) = q.map (bit · n) := by
  induction p generalizing q with
  | nil => cases q with
    | nil => simp
    | cons => simp at hl
  | cons c p ih =>
    cases q with
    | nil => simp at hl
    | cons d q =>
      simp only [List.length_cons, Nat.add_right_cancel_iff] at hl
      unfold addr
      have h1 := addr_lt p n
      have h2 := addr_lt q n
      rw [hl] at h1 ⊢
      rw [(two_digits h1 h2).2, ih hl]
      simp
/-- numbers below 2^n are alike if all their bits are -/
theorem bits_eq (n : Nat) : ∀ u v : Nat, u < 2 ^ n → v < 2 ^ n → (∀ m, m < n → bit u m = bit v m) → u = v := by
  induction n with
  | zero => intro u v hu hv _; simp at hu hv; omega
  | succ n ih =>
    intro u v hu hv h
    have h0 := h 0 (by omega)
    simp only [bit, Nat.pow_zero, Nat.div_one] at h0
    have := ih (u / 2) (v / 2) (by rw [Nat.pow_succ] at hu; omega) (by rw [Nat.pow_succ] at hv; omega) (by
      intro m hm
      have := h (m + 1) (by omega)
      simp only [bit, Nat.pow_succ'] at this ⊢
      rw [Nat.div_div_eq_div_mul, Nat.div_div_eq_div_mul]
      exact this)
    omega
/-- the key tells points apart -/
theorem key_inj {p q : List Nat} (hl : p.length = q.length) (hp : ∀ c ∈ p, c < 2 ^ 64) (hq : ∀ c ∈ q, c < 2 ^ 64) (h : key p 64 = key q 64) : p = q := by
  have ha := (key_all hl 64).1 h
  have hb : ∀ m, m < 64 → p.map (bit · m) = q.map (bit · m) := fun m hm => (addr_eq hl m).1 (ha m hm)
  apply List.ext_getElem hl
  intro i h1 h2
  refine bits_eq 64 _ _ (hp _ (List.getElem_mem h1)) (hq _ (List.getElem_mem h2)) fun m hm => ?_
  have := hb m hm
  have e : (p.map (bit · m))[i]'(by simpa using h1) = (q.map (bit · m))[i]'(by simpa using h2) := by simp only [this]
  simpa using e
/-- which point comes first: -1, 0, 1 -/
def cmp (p q : List Nat) : Int := if key p 64 < key q 64 then -1 else if key p 64 = key q 64 then 0 else 1
/-- as the document says it -/
theorem cmp_part {p q : List Nat} (hl : p.length = q.length) : cmp p q = if part p q 64 < 0 then 0 else if addr p (part p q 64).toNat < addr q (part p q 64).toNat then -1 else 1 := by
  unfold cmp
  rcases part_key hl 64 with ⟨h1, h2⟩ | ⟨m, hm, h1, h2, h3, h4⟩
  · rw [h1, h2]; simp
  · rw [h1, if_neg (show ¬ (m : Int) < 0 by omega), Int.toNat_natCast]
    by_cases h : addr p m < addr q m
    · rw [if_pos (h4.2 h), if_pos h]
    · rw [if_neg (fun h' => h (h4.1 h')), if_neg h3, if_neg h]

theorem part_none {p q : List Nat} (n : Nat) (h : ∀ m, m < n → addr p m = addr q m) : part p q n = -1 := by
  induction n with
  | zero => rfl
  | succ n ih => rw [part_succ, if_neg (by have := h n (by omega); omega)]; exact ih fun m hm => h m (by omega)
theorem part_at {p q : List Nat} (n m : Nat) (hm : m < n) (hd : addr p m ≠ addr q m) (h : ∀ j, m < j → j < n → addr p j = addr q j) : part p q n = m := by
  induction n with
  | zero => omega
  | succ n ih =>
    rw [part_succ]
    by_cases e : m = n
    · subst e; rw [if_pos hd]
    · rw [if_neg (by have := h n (by omega) (by omega); omega)]
      exact ih (by omega) fun j h1 h2 => h j h1 (by omega)
/-- all that is unlike, bit by bit -/
def orx : List Nat → List Nat → Nat
  | c :: p, d :: q => (c ^^^ d) ||| orx p q
  | _, _ => 0
theorem testBit_bit (u m : Nat) : u.testBit m = decide (bit u m = 1) := by
  rw [Nat.testBit_eq_decide_div_mod_eq]; rfl
theorem orx_bit {p q : List Nat} (hl : p.length = q.length) (m : Nat) : (orx p q).testBit m = true ↔ addr p m ≠ addr q m := by
  rw [Ne, addr_eq hl]
  induction p generalizing q with
  | nil => cases q with
    | nil => simp [orx]
    | cons => simp at hl
  | cons c p ih =>
    cases q with
    | nil => simp at hl
    | cons d q =>
      simp only [List.length_cons, Nat.add_right_cancel_iff] at hl
      have h1 := bit_lt c m
      have h2 := bit_lt d m
      simp only [orx, Nat.testBit_or, Nat.testBit_xor, Bool.or_eq_true, List.map_cons, List.cons.injEq, ih hl]
      rw [testBit_bit, testBit_bit]
      by_cases e : bit c m = bit d m
      · simp [e]
      · simp only [e, false_and, not_false_eq_true, iff_true]
        left
        have : (bit c m = 0 ∧ bit d m = 1) ∨ (bit c m = 1 ∧ bit d m = 0) := by omega
        rcases this with ⟨a, b⟩ | ⟨a, b⟩ <;> rw [a, b] <;> rfl
theorem orx_lt (p q : List Nat) (hp : ∀ c ∈ p, c < 2 ^ 64) (hq : ∀ c ∈ q, c < 2 ^ 64) : orx p q < 2 ^ 64 := by
  induction p generalizing q with
  | nil => simp [orx]
  | cons c p ih =>
    cases q with
    | nil => simp [orx]
    | cons d q =>
      unfold orx
      exact Nat.or_lt_two_pow (Nat.xor_lt_two_pow (hp c (by simp)) (hq d (by simp))) (ih q (fun c hc => hp c (by simp [hc])) (fun c hc => hq c (by simp [hc])))
/-- how many bits a number has -/
def len (u : Nat) : Nat := if u = 0 then 0 else u.log2 + 1
theorem len_part {p q : List Nat} (hl : p.length = q.length) (hp : ∀ c ∈ p, c < 2 ^ 64) (hq : ∀ c ∈ q, c < 2 ^ 64) : (len (orx p q) : Int) - 1 = part p q 64 := by
  have hlt := orx_lt p q hp hq
  unfold len
  by_cases h : orx p q = 0
  · rw [if_pos h, part_none 64]
    · rfl
    · intro m hm
      apply Decidable.byContradiction
      intro hne
      have := (orx_bit hl m).2 hne
      rw [h] at this
      simp at this
  · rw [if_neg h, part_at 64 (orx p q).log2 ((Nat.log2_lt h).2 hlt)]
    · omega
    · exact (orx_bit hl _).1 (by
        rw [testBit_bit]
        have h1 := Nat.log2_self_le h
        have h2 : orx p q < 2 ^ ((orx p q).log2 + 1) := Nat.lt_log2_self
        have : orx p q / 2 ^ (orx p q).log2 = 1 := by
          rw [Nat.pow_succ] at h2
          apply Nat.div_eq_of_lt_le <;> omega
        simp [bit, this])
    · intro j h1 h2
      apply Decidable.byContradiction
      intro hne
      have := (orx_bit hl j).2 hne
      have h3 : orx p q < 2 ^ j := (Nat.log2_lt h).1 h1
      rw [Nat.testBit_lt_two_pow h3] at this
      cases this
/-- the first coordinate that has the bit of the level unlike tells -/
def first : List Nat → List Nat → Nat → Int
  | c :: p, d :: q, m => if (c ^^^ d) / 2 ^ m = 0 then first p q m else if c < d then -1 else 1
  | _, _, _ => 0
theorem xor_zero {a b : Nat} (h : a ^^^ b = 0) : a = b := Nat.eq_of_testBit_eq fun i => by
  have h1 : (a ^^^ b).testBit i = false := by rw [h]; exact Nat.zero_testBit i
  rw [Nat.testBit_xor] at h1
  revert h1
  cases a.testBit i <;> cases b.testBit i <;> simp
theorem bit_shift (u k m : Nat) : bit (u / 2 ^ k) m = bit u (k + m) := by
  unfold bit; rw [Nat.div_div_eq_div_mul, Nat.pow_add]
theorem first_addr {p q : List Nat} (hl : p.length = q.length) (m : Nat) (hp : ∀ (i c d : Nat), p[i]? = some c → q[i]? = some d → c / 2 ^ (m + 1) = d / 2 ^ (m + 1)) :
    first p q m = if addr p m < addr q m then -1 else if addr p m = addr q m then 0 else 1 := by
  induction p generalizing q with
  | nil => cases q with
    | nil => simp [first, addr]
    | cons => simp at hl
  | cons c p ih =>
    cases q with
    | nil => simp at hl
    | cons d q =>
      simp only [List.length_cons, Nat.add_right_cancel_iff] at hl
      have h0 := hp 0 c d rfl rfl
      have hi := ih hl fun i c d h1 h2 => hp (i + 1) c d h1 h2
      have h1 := addr_lt p m
      have h2 := addr_lt q m
      have b1 := bit_lt c m
      have b2 := bit_lt d m
      have e1 : c / 2 ^ m = 2 * (c / 2 ^ (m + 1)) + bit c m := by rw [Nat.pow_succ, ← Nat.div_div_eq_div_mul]; unfold bit; omega
      have e2 : d / 2 ^ m = 2 * (d / 2 ^ (m + 1)) + bit d m := by rw [Nat.pow_succ, ← Nat.div_div_eq_div_mul]; unfold bit; omega
      have ex : (c ^^^ d) / 2 ^ m = (c / 2 ^ m) ^^^ (d / 2 ^ m) := by
        rw [← Nat.shiftRight_eq_div_pow, ← Nat.shiftRight_eq_div_pow, ← Nat.shiftRight_eq_div_pow, Nat.shiftRight_xor_distrib]
      have hz : (c ^^^ d) / 2 ^ m = 0 ↔ bit c m = bit d m := by
        rw [ex]
        constructor
        · intro h
          have : c / 2 ^ m = d / 2 ^ m := xor_zero h
          omega
        · intro h
          rw [e1, e2, h0, h, Nat.xor_self]
      unfold first addr
      rw [hl] at h1 ⊢
      obtain ⟨t1, t2⟩ := two_digits (a := bit c m) (b := bit d m) h1 h2
      by_cases hb : bit c m = bit d m
      · rw [if_pos (hz.2 hb), hi]
        have k1 : (bit c m * 2 ^ q.length + addr p m < bit d m * 2 ^ q.length + addr q m) ↔ addr p m < addr q m := by rw [t1]; omega
        have k2 : (bit c m * 2 ^ q.length + addr p m = bit d m * 2 ^ q.length + addr q m) ↔ addr p m = addr q m := by rw [t2]; omega
        simp only [k1, k2]
      · rw [if_neg (fun h => hb (hz.1 h))]
        have k2 : ¬ (bit c m * 2 ^ q.length + addr p m = bit d m * 2 ^ q.length + addr q m) := by rw [t2]; omega
        have hcd : c < d ↔ bit c m < bit d m := by
          constructor
          · intro h
            have : c / 2 ^ m ≤ d / 2 ^ m := Nat.div_le_div_right (by omega)
            omega
          · intro h
            apply Decidable.byContradiction
            intro h'
            have : d / 2 ^ m ≤ c / 2 ^ m := Nat.div_le_div_right (by omega)
            omega
        have k1 : (bit c m * 2 ^ q.length + addr p m < bit d m * 2 ^ q.length + addr q m) ↔ c < d := by rw [t1, hcd]; omega
        simp only [k1, if_neg k2]
theorem first_cmp {p q : List Nat} (hl : p.length = q.length) (hp : ∀ c ∈ p, c < 2 ^ 64) (hq : ∀ c ∈ q, c < 2 ^ 64) (m : Nat) (hm : part p q 64 = m) : first p q m = cmp p q := by
  rcases part_key hl 64 with ⟨h1, h2⟩ | ⟨m', hm', h1, h2, h3, h4⟩
  · omega
  · obtain rfl : m = m' := by omega
    have hup : ∀ j, m < j → j < 64 → addr p j = addr q j := by
      intro j hj hj'
      apply Decidable.byContradiction
      intro hne
      have : ∀ n, j < n → (j : Int) ≤ part p q n := by
        intro n
        induction n with
        | zero => omega
        | succ n ih =>
          intro hn
          rw [part_succ]
          split
          · omega
          · by_cases e : j = n
            · subst e; omega
            · exact ih (by omega)
      have := this 64 hj'
      omega
    rw [first_addr hl m, cmp_part hl, hm, if_neg (show ¬ (m : Int) < 0 by omega), Int.toNat_natCast, if_neg h2]
    intro i c d e1 e2
    have hc := hp c (List.mem_of_getElem? e1)
    have hd := hq d (List.mem_of_getElem? e2)
    refine bits_eq 64 _ _ (Nat.lt_of_le_of_lt (Nat.div_le_self _ _) hc) (Nat.lt_of_le_of_lt (Nat.div_le_self _ _) hd) fun j hj => ?_
    rw [bit_shift, bit_shift]
    by_cases hbig : m + 1 + j < 64
    · have := (addr_eq hl (m + 1 + j)).1 (hup _ (by omega) hbig)
      have g : (p.map (bit · (m + 1 + j)))[i]? = (q.map (bit · (m + 1 + j)))[i]? := by rw [this]
      simp only [List.getElem?_map, e1, e2, Option.map_some, Option.some.injEq] at g
      exact g
    · have z : ∀ u, u < 2 ^ 64 → bit u (m + 1 + j) = 0 := by
        intro u hu
        unfold bit
        rw [Nat.div_eq_of_lt (Nat.lt_of_lt_of_le hu (Nat.pow_le_pow_right (by omega) (by omega)))]
      rw [z c hc, z d hd]
end Go.Proofs.Ytlmgabhdeeehmaa.Zb
