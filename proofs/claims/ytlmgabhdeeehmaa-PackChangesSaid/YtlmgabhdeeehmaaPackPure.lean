/-
  The bytes of numbers, points and changes. No program.
-/
import Derived.Test.YtlmgabhdeeehmaaEdPure
set_option linter.unusedVariables false
namespace Go.Proofs.Ytlmgabhdeeehmaa.Pk

/-- a number's bytes; n + 1 of them are enough -/
def lebF : Nat → Nat → List Nat
  | 0, u => [u]
  | n + 1, u => if u < 128 then [u] else (u % 128 + 128) :: lebF n (u / 128)
def leb (u : Nat) : List Nat := lebF 9 u
def lebP : List Nat → List Nat → List Nat
  | c :: p, d :: q => leb (c ^^^ d) ++ lebP p q
  | _, _ => []
def flag (c : Ch) : Nat := (if c.had then 1 else 0) + (if c.has then 2 else 0)
def vals (c : Ch) : List Nat := (if c.had then leb c.old else []) ++ (if c.has then leb c.new else [])
def one (last : List Nat) (c : Ch) : List Nat := lebP c.p last ++ flag c :: vals c
def all : List Nat → List Ch → List Nat
  | _, [] => []
  | last, c :: l => one last c ++ all c.p l
def zeros (k : Nat) : List Nat := List.replicate k 0
def bytes (k : Nat) (l : List Ch) : List Nat := [80, 68] ++ (leb k ++ (leb l.length ++ all (zeros k) l))

theorem lebF_small (n u : Nat) (h : u < 128) : lebF n u = [u] := by cases n <;> simp [lebF, h]
theorem lebF_big (n u : Nat) (h : 128 ≤ u) : lebF (n + 1) u = (u % 128 + 128) :: lebF n (u / 128) := by rw [lebF, if_neg (by omega)]
theorem lebF_byte (n u : Nat) (hu : u < 128 ^ (n + 1)) : ∀ b ∈ lebF n u, b < 256 := by
  induction n generalizing u with
  | zero => intro b hb; simp [lebF] at hb hu; omega
  | succ n ih =>
    intro b hb
    unfold lebF at hb
    split at hb
    · simp at hb; omega
    · rcases List.mem_cons.1 hb with rfl | hb
      · have := Nat.mod_lt u (show 128 > 0 by omega); omega
      · refine ih (u / 128) ?_ b hb
        rw [Nat.div_lt_iff_lt_mul (by omega), ← Nat.pow_succ]; exact hu
theorem lebF_length (n u : Nat) : 1 ≤ (lebF n u).length ∧ (lebF n u).length ≤ n + 1 := by
  induction n generalizing u with
  | zero => simp [lebF]
  | succ n ih =>
    unfold lebF
    have := ih (u / 128)
    split <;> simp <;> omega
theorem leb_length (u : Nat) : (leb u).length ≤ 10 := (lebF_length 9 u).2
theorem leb_byte (u : Nat) (hu : u < 2 ^ 64) : ∀ b ∈ leb u, b < 256 := lebF_byte 9 u (Nat.lt_of_lt_of_le hu (by decide))
theorem lebP_length (p q : List Nat) : (lebP p q).length ≤ 10 * p.length := by
  induction p generalizing q with
  | nil => simp [lebP]
  | cons c p ih =>
    cases q with
    | nil => simp [lebP]
    | cons d q =>
      unfold lebP
      have := leb_length (c ^^^ d)
      have := ih q
      simp; omega
theorem vals_length (c : Ch) : (vals c).length ≤ 20 := by
  unfold vals
  have := leb_length c.old
  have := leb_length c.new
  split <;> split <;> simp <;> omega
theorem one_length (last : List Nat) (c : Ch) : (one last c).length ≤ 10 * c.p.length + 21 := by
  unfold one
  have := lebP_length c.p last
  have := vals_length c
  simp; omega
theorem all_length (last : List Nat) (l : List Ch) (k : Nat) (h : ∀ c ∈ l, c.p.length ≤ k) : (all last l).length ≤ l.length * (10 * k + 21) := by
  induction l generalizing last with
  | nil => simp [all]
  | cons c l ih =>
    unfold all
    have h1 := one_length last c
    have h2 := ih c.p fun d hd => h d (List.mem_cons_of_mem _ hd)
    have h3 := h c (List.mem_cons_self ..)
    rw [List.length_append, List.length_cons, Nat.succ_mul]
    omega
theorem lebP_take (p q : List Nat) (j : Nat) (hp : j < p.length) (hq : j < q.length) : lebP (p.take (j + 1)) (q.take (j + 1)) = lebP (p.take j) (q.take j) ++ leb (p[j] ^^^ q[j]) := by
  induction p generalizing q j with
  | nil => simp at hp
  | cons c p ih =>
    cases q with
    | nil => simp at hq
    | cons d q =>
      cases j with
      | zero => simp [lebP]
      | succ j => simp only [List.take_succ_cons, lebP, List.getElem_cons_succ]; rw [ih q j (by simpa using hp) (by simpa using hq), List.append_assoc]
end Go.Proofs.Ytlmgabhdeeehmaa.Pk
