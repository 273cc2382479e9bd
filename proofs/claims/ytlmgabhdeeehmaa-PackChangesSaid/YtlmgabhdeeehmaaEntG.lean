/-
  Appending to a row of the call's own.
-/
import Derived.Test.YtlmgabhdeeehmaaEdPure
import Derived.ArgAppend
import Derived.Laws.OwnMore
namespace Go.Proofs.Ytlmgabhdeeehmaa
open Go.RowKit
set_option linter.unusedVariables false

/-- the length is within the capacity -/
def CapOk (v : Value) : Prop := ∃ A n c, v = .slice A n c ∧ n ≤ c ∧ c ≤ maxLen ∧ (0 < c → ∃ b o, A = some ⟨b, o, none⟩)
theorem RdC.nil (w : World) (A : Option Addr) (c : Nat) : RdC w (.slice A 0 c) [] := ⟨A, c, rfl, fun h => absurd h (by simp)⟩

/-- a slice of uint64 is one cell -/
theorem RdU.one' {w : World} {v : Value} {xs : List Int} (h : RdU w v xs) : v.oneCell' = true := by
  obtain ⟨A, c, e, _⟩ := h; subst e; rfl

theorem changeInfo : (Try.prog.info? 114).map (fun i => (i.zero, i.size, i.bytes)) = some (some (.agg #[.slice none 0 0, .bool false, .bool false, .int .u64 0, .int .u64 0]), 5, 48) := by kernel_rfl

/-- what is appended: a slice whose cells are news -/
def Src (w : World) (size m : Nat) (x : Value) (news : List Value) : Prop :=
  news.length = m * size ∧ (∀ u ∈ news, u.oneCell' = true) ∧ ∃ ao c, x = .slice ao m c ∧ (ao = none → m = 0 ∧ c = 0) ∧ ∀ ad, ao = some ad → ∀ j u, news[j]? = some u → w.cell? (ad.add j) = some u
theorem ownBlock_base {w : World} {base : Nat} {e : TypeId} {size n : Nat} {v : Value} {xs : List Value} (h : w.ownsRow base e size v n xs) : ∀ k, v.ownBlock = some k → base ≤ k := fun k hk => (h.lt k hk).1
theorem run_append_src {P : Program} (w : World) (base : Nat) (t ty e : TypeId) (z : Value) (size bytes : Nat) (ht : P.underlying t = some (.slice e)) (hinfo : (P.info? e).map (fun i => (i.zero, i.size, i.bytes)) = some (some z, size, bytes))
    (hzs : z.cells.size = size) (hsz : 0 < size) (v : Value) (n : Nat) (xs : List Value) (hown : w.ownsRow base e size v n xs) (x : Value) (m : Nat) (news : List Value) (hx : Src w size m x news)
    (h63 : n + m ≤ maxLen) (hbytes : (n + m) * bytes ≤ 140737488355328) (hbase : base ≤ w.heap.size) :
    ∃ v' w', (Builtin.append_ #[t, t] ty #[v, x]).run P w = .ok v' w' ∧ w'.ownsRow base e size v' (n + m) (xs ++ news) ∧ w.grownBy w' v.ownBlock := by
  obtain ⟨i, hi, hz0, hz1, hz2⟩ := info_parts hinfo
  obtain ⟨hl, h1, ao, c, rfl, hnone, hc⟩ := hx
  cases ao with
  | some ad =>
    obtain ⟨v', w', a1, a2, a3, _⟩ := run_append_own (P := P) w base t ty e i z size bytes ht hi hz0 hz1 hz2 hzs hsz v n xs hown ad m c news hl (hc ad rfl) h1 h63 hbytes hbase
    exact ⟨v', w', a1, a2, a3⟩
  | none =>
    obtain ⟨rfl, rfl⟩ := hnone rfl
    obtain rfl : news = [] := List.eq_nil_of_length_eq_zero (by simpa using hl)
    exact ⟨v, w, run_append_owned_none (P := P) (w := w) base t ty e i size ht hi v n xs hown, by simpa using hown, World.grownBy.refl _ _⟩
/-- onto an empty literal: nothing old is touched -/
theorem run_append_lit {P : Program} (w : World) (base : Nat) (t ty e : TypeId) (z : Value) (size bytes : Nat) (ht : P.underlying t = some (.slice e)) (hinfo : (P.info? e).map (fun i => (i.zero, i.size, i.bytes)) = some (some z, size, bytes))
    (hzs : z.cells.size = size) (hsz : 0 < size) (g : Nat) (hown : w.ownsRow base e size (.slice (some ⟨g, 0, none⟩) 0 0) 0 []) (x : Value) (m : Nat) (news : List Value) (hx : Src w size m x news)
    (h63 : m ≤ maxLen) (hbytes : m * bytes ≤ 140737488355328) (hbase : base ≤ w.heap.size) :
    ∃ v' w', (Builtin.append_ #[t, t] ty #[.slice (some ⟨g, 0, none⟩) 0 0, x]).run P w = .ok v' w' ∧ w'.ownsRow base e size v' m news ∧ Below w.heap.size w w' := by
  obtain ⟨i, hi, hz0, hz1, hz2⟩ := info_parts hinfo
  obtain ⟨hl, h1, ao, c, rfl, hnone, hc⟩ := hx
  cases ao with
  | some ad =>
    by_cases hm : m = 0
    · subst hm
      obtain rfl : news = [] := List.eq_nil_of_length_eq_zero (by simpa using hl)
      have := run_append_room_cells (P := P) w t ty e i ht hi g 0 0 0 ad 0 c [] (by simp) (fun j u h => by simp at h) (fun u h => by simp at h) (Nat.le_refl _) (fun j h => by simp at h) (fun j h => by simp at h)
      exact ⟨_, _, this, hown, Below.refl _ _⟩
    · obtain ⟨v', w', a1, a2, a3⟩ := run_append_arg_grows (P := P) w t ty e i z size bytes ht hi hz0 hz1 hz2 hzs hsz ⟨g, 0, none⟩ 0 0 [] (by simp) (fun j u h => by simp at h) ad m c news hl (hc ad rfl) (by omega) (by simpa using h63) (by simpa using hbytes)
      refine ⟨v', w', a1, ?_, (Below.refl _ _).grown a3 (Nat.le_refl _) (fun k h => by cases h)⟩
      rw [Nat.zero_add, List.nil_append] at a2
      obtain ⟨b1, b2⟩ := a2
      refine ⟨b1, ?_⟩
      rcases b2 with b2 | ⟨g', cap, cur, q1, q2, q3⟩
      · exact .inl b2
      · exact .inr ⟨g', cap, cur, q1, Nat.le_trans hbase q2, q3⟩
  | none =>
    obtain ⟨rfl, rfl⟩ := hnone rfl
    obtain rfl : news = [] := List.eq_nil_of_length_eq_zero (by simpa using hl)
    exact ⟨_, w, run_append_owned_none (P := P) (w := w) base t ty e i size ht hi _ 0 [] hown, by simpa using hown, Below.refl _ _⟩

end Go.Proofs.Ytlmgabhdeeehmaa
