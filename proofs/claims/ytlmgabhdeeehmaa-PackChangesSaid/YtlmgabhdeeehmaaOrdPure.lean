/-
  Lists in ascending order of a key: looked up, put, taken out; two such lists are alike if all look-ups are. No program.
-/
import Derived.Test.YtlmgabhdeeehmaaZPure
set_option linter.unusedVariables false
namespace Go.Proofs.Ytlmgabhdeeehmaa.Od
variable {α : Type}

/-- ascending by a key -/
def Asc (key : α → Nat) (l : List α) : Prop := l.Pairwise (fun x y => key x < key y)
/-- the element of a key -/
def look (key : α → Nat) (l : List α) (n : Nat) : Option α := l.find? (fun x => key x == n)

theorem look_nil (key : α → Nat) (n : Nat) : look key [] n = none := rfl
theorem look_cons (key : α → Nat) (x : α) (l : List α) (n : Nat) : look key (x :: l) n = if key x = n then some x else look key l n := by
  unfold look
  rw [List.find?_cons]
  by_cases h : key x = n
  · simp [h]
  · have : (key x == n) = false := by simpa using h
    rw [this, if_neg h]
theorem look_some {key : α → Nat} {l : List α} {n : Nat} {x : α} (h : look key l n = some x) : x ∈ l ∧ key x = n := by
  have h1 := List.mem_of_find?_eq_some h
  have h2 := List.find?_some h
  exact ⟨h1, by simpa using h2⟩
theorem look_none {key : α → Nat} {l : List α} {n : Nat} (h : look key l n = none) : ∀ x ∈ l, key x ≠ n := by
  intro x hx hk
  have := List.find?_eq_none.1 h x hx
  simp [hk] at this
theorem look_eq_none {key : α → Nat} {l : List α} {n : Nat} (h : ∀ x ∈ l, key x ≠ n) : look key l n = none := by
  unfold look
  rw [List.find?_eq_none]
  intro x hx
  simpa using h x hx
theorem Asc.tail {key : α → Nat} {x : α} {l : List α} (h : Asc key (x :: l)) : Asc key l := (List.pairwise_cons.1 h).2
theorem Asc.head {key : α → Nat} {x : α} {l : List α} (h : Asc key (x :: l)) : ∀ y ∈ l, key x < key y := (List.pairwise_cons.1 h).1
theorem Asc.cons {key : α → Nat} {x : α} {l : List α} (h : Asc key l) (h1 : ∀ y ∈ l, key x < key y) : Asc key (x :: l) := List.pairwise_cons.2 ⟨h1, h⟩
theorem look_mem {key : α → Nat} {l : List α} (h : Asc key l) {x : α} (hx : x ∈ l) : look key l (key x) = some x := by
  induction l with
  | nil => simp at hx
  | cons y l ih =>
    rw [look_cons]
    rcases List.mem_cons.1 hx with rfl | hx
    · simp
    · have := h.head x hx
      rw [if_neg (by omega)]
      exact ih h.tail hx
theorem look_below {key : α → Nat} {x : α} {l : List α} (h : Asc key (x :: l)) {n : Nat} (hn : n ≤ key x) : look key l n = none :=
  look_eq_none fun y hy => by have := h.head y hy; omega
/-- two lists in order are alike if all look-ups are -/
theorem ext {key : α → Nat} {l m : List α} (hl : Asc key l) (hm : Asc key m) (h : ∀ n, look key l n = look key m n) : l = m := by
  induction l generalizing m with
  | nil =>
    cases m with
    | nil => rfl
    | cons y m => have := h (key y); rw [look_nil, look_cons, if_pos rfl] at this; cases this
  | cons x l ih =>
    cases m with
    | nil => have := h (key x); rw [look_nil, look_cons, if_pos rfl] at this; cases this
    | cons y m =>
      have h1 := h (key x)
      have h2 := h (key y)
      rw [look_cons, look_cons, if_pos rfl] at h1 h2
      have hk : key x = key y := by
        rcases Nat.lt_trichotomy (key x) (key y) with hlt | he | hgt
        · rw [if_neg (by omega), look_below hm (by omega)] at h1; cases h1
        · exact he
        · rw [if_neg (by omega), look_below hl (by omega)] at h2; cases h2
      rw [if_pos hk.symm] at h1
      injection h1 with h1
      subst h1
      refine congrArg _ (ih hl.tail hm.tail fun n => ?_)
      have := h n
      rw [look_cons, look_cons] at this
      by_cases hn : key x = n
      · rw [look_below hl (by omega), look_below hm (by omega)]
      · rwa [if_neg hn, if_neg hn] at this

/-- filterMap that keeps keys -/
theorem asc_filterMap {β : Type} {key : α → Nat} {key' : β → Nat} {f : α → Option β} {l : List α} (h : Asc key l) (hf : ∀ x ∈ l, ∀ y, f x = some y → key' y = key x) : Asc key' (l.filterMap f) ∧ ∀ n, look key' (l.filterMap f) n = (look key l n).bind f := by
  induction l with
  | nil => exact ⟨List.Pairwise.nil, fun n => rfl⟩
  | cons x l ih =>
    obtain ⟨i1, i2⟩ := ih h.tail (fun z hz => hf z (List.mem_cons_of_mem _ hz))
    cases e : f x with
    | none =>
      rw [List.filterMap_cons_none e]
      refine ⟨i1, fun n => ?_⟩
      rw [look_cons]
      by_cases hn : key x = n
      · rw [if_pos hn, i2, look_below h (by omega)]; simp [e]
      · rw [if_neg hn, i2]
    | some y =>
      rw [List.filterMap_cons_some e]
      have hy := hf x (List.mem_cons_self ..) y e
      refine ⟨i1.cons fun z hz => ?_, fun n => ?_⟩
      · obtain ⟨u, hu, hz'⟩ := List.mem_filterMap.1 hz
        rw [hy, hf u (List.mem_cons_of_mem _ hu) z hz']
        exact h.head u hu
      · rw [look_cons, look_cons, hy, i2]
        by_cases hn : key x = n
        · rw [if_pos hn, if_pos hn]; simp [e]
        · rw [if_neg hn, if_neg hn]

/-- put: the element of the same key gives way -/
def ins (key : α → Nat) (x : α) : List α → List α
  | [] => [x]
  | y :: l => if key y < key x then y :: ins key x l else if key y = key x then x :: l else x :: y :: l
/-- take out -/
def del (key : α → Nat) (n : Nat) : List α → List α
  | [] => []
  | y :: l => if key y = n then l else y :: del key n l
theorem mem_ins {key : α → Nat} {x : α} {l : List α} {z : α} (h : z ∈ ins key x l) : z = x ∨ z ∈ l := by
  induction l with
  | nil => simp [ins] at h; exact .inl h
  | cons y l ih =>
    unfold ins at h
    split at h
    · rcases List.mem_cons.1 h with rfl | h
      · exact .inr (List.mem_cons_self ..)
      · rcases ih h with h | h
        · exact .inl h
        · exact .inr (List.mem_cons_of_mem _ h)
    · split at h
      · rcases List.mem_cons.1 h with rfl | h
        · exact .inl rfl
        · exact .inr (List.mem_cons_of_mem _ h)
      · rcases List.mem_cons.1 h with rfl | h
        · exact .inl rfl
        · exact .inr h
theorem mem_del {key : α → Nat} {n : Nat} {l : List α} {z : α} (h : z ∈ del key n l) : z ∈ l := by
  induction l with
  | nil => simp [del] at h
  | cons y l ih =>
    unfold del at h
    split at h
    · exact List.mem_cons_of_mem _ h
    · rcases List.mem_cons.1 h with rfl | h
      · exact List.mem_cons_self ..
      · exact List.mem_cons_of_mem _ (ih h)
theorem asc_ins {key : α → Nat} {x : α} {l : List α} (h : Asc key l) : Asc key (ins key x l) ∧ ∀ n, look key (ins key x l) n = if key x = n then some x else look key l n := by
  induction l with
  | nil => exact ⟨List.pairwise_singleton _ _, fun n => look_cons ..⟩
  | cons y l ih =>
    obtain ⟨i1, i2⟩ := ih h.tail
    unfold ins
    split
    · rename_i hlt
      refine ⟨i1.cons fun z hz => ?_, fun n => ?_⟩
      · rcases mem_ins hz with rfl | hz
        · exact hlt
        · exact h.head z hz
      · rw [look_cons, i2, look_cons]
        by_cases h1 : key y = n
        · rw [if_pos h1, if_neg (by omega), if_pos h1]
        · rw [if_neg h1, if_neg h1]
    · split
      · rename_i h1 h2
        refine ⟨h.tail.cons fun z hz => by rw [← h2]; exact h.head z hz, fun n => ?_⟩
        rw [look_cons, look_cons, h2]
        by_cases hn : key x = n
        · rw [if_pos hn, if_pos hn]
        · rw [if_neg hn, if_neg hn, if_neg hn]
      · rename_i h1 h2
        refine ⟨h.cons fun z hz => ?_, fun n => look_cons ..⟩
        rcases List.mem_cons.1 hz with rfl | hz
        · omega
        · have := h.head z hz; omega
theorem asc_del {key : α → Nat} {m : Nat} {l : List α} (h : Asc key l) : Asc key (del key m l) ∧ ∀ n, look key (del key m l) n = if m = n then none else look key l n := by
  induction l with
  | nil => exact ⟨List.Pairwise.nil, fun n => by simp [del, look_nil]⟩
  | cons y l ih =>
    obtain ⟨i1, i2⟩ := ih h.tail
    unfold del
    split
    · rename_i he
      refine ⟨h.tail, fun n => ?_⟩
      rw [look_cons]
      by_cases hn : m = n
      · rw [if_pos hn, look_below h (by omega)]
      · rw [if_neg hn, if_neg (by omega)]
    · rename_i he
      refine ⟨i1.cons fun z hz => h.head z (mem_del hz), fun n => ?_⟩
      rw [look_cons, i2, look_cons]
      by_cases h1 : key y = n
      · rw [if_pos h1, if_neg (by omega), if_pos h1]
      · rw [if_neg h1, if_neg h1]
theorem ins_length {key : α → Nat} {x : α} {l : List α} : (ins key x l).length ≤ l.length + 1 := by
  induction l with
  | nil => simp [ins]
  | cons y l ih => unfold ins; split <;> (try split) <;> simp <;> omega
theorem del_length {key : α → Nat} {n : Nat} {l : List α} : (del key n l).length ≤ l.length := by
  induction l with
  | nil => simp [del]
  | cons y l ih => unfold del; split <;> simp <;> omega

/-- where a key stands, or would stand; is it there? -/
def place (key : α → Nat) (n : Nat) : List α → Nat × Bool
  | [] => (0, false)
  | y :: l => if key y < n then ((place key n l).1 + 1, (place key n l).2) else (0, decide (key y = n))
theorem place_le (key : α → Nat) (n : Nat) (l : List α) : (place key n l).1 ≤ l.length := by
  induction l with
  | nil => simp [place]
  | cons y l ih => unfold place; split <;> simp; exact ih
theorem place_at {key : α → Nat} {n : Nat} {l : List α} (i : Nat) (hi : i < l.length) (h : ∀ j (hj : j < l.length), j < i → key l[j] < n) (h2 : ¬ key l[i] < n) : place key n l = (i, decide (key l[i] = n)) := by
  induction l generalizing i with
  | nil => simp at hi
  | cons y l ih =>
    unfold place
    cases i with
    | zero => rw [if_neg (by simpa using h2)]; rfl
    | succ i =>
      have h0 := h 0 (by simp) (by omega)
      simp only [List.getElem_cons_zero] at h0
      rw [if_pos h0, ih i (by simpa using hi) (fun j hj hji => by
        have := h (j + 1) (by simpa using hj) (by omega)
        rw [List.getElem_cons_succ] at this; exact this) (by rw [List.getElem_cons_succ] at h2; exact h2)]
      simp
theorem place_end {key : α → Nat} {n : Nat} {l : List α} (h : ∀ j (hj : j < l.length), key l[j] < n) : place key n l = (l.length, false) := by
  induction l with
  | nil => rfl
  | cons y l ih =>
    unfold place
    have h0 := h 0 (by simp)
    simp only [List.getElem_cons_zero] at h0
    rw [if_pos h0, ih (fun j hj => by
      have := h (j + 1) (by simpa using hj)
      rw [List.getElem_cons_succ] at this; exact this)]
    simp
theorem place_lt {key : α → Nat} {n : Nat} {l : List α} (h : (place key n l).2 = true) : ∃ hi : (place key n l).1 < l.length, key l[(place key n l).1] = n := by
  induction l with
  | nil => simp [place] at h
  | cons y l ih =>
    unfold place at h
    by_cases hy : key y < n
    · rw [if_pos hy] at h
      obtain ⟨hi, he⟩ := ih h
      have e : (place key n (y :: l)).1 = (place key n l).1 + 1 := by rw [place, if_pos hy]
      exact ⟨by rw [e]; simpa using hi, by simp only [e, List.getElem_cons_succ]; exact he⟩
    · rw [if_neg hy] at h
      have e : (place key n (y :: l)).1 = 0 := by rw [place, if_neg hy]
      exact ⟨by rw [e]; simp, by simp only [e, List.getElem_cons_zero]; simpa using h⟩
/-- the document's Del -/
theorem del_place {key : α → Nat} {n : Nat} {l : List α} (h : Asc key l) : del key n l = if (place key n l).2 then l.take (place key n l).1 ++ l.drop ((place key n l).1 + 1) else l := by
  induction l with
  | nil => simp [del, place]
  | cons y l ih =>
    unfold del place
    by_cases h1 : key y = n
    · rw [if_pos h1, if_neg (show ¬ key y < n by omega)]; simp [h1]
    · rw [if_neg h1, ih h.tail]
      by_cases h2 : key y < n
      · rw [if_pos h2]
        cases e : (place key n l).2 <;> simp
      · rw [if_neg h2]
        have : (place key n l).2 = false := by
          cases e : (place key n l).2 with
          | false => rfl
          | true =>
            obtain ⟨hi, he⟩ := place_lt e
            have := h.head _ (List.getElem_mem hi)
            omega
        simp [this, h1]
/-- the document's Put -/
theorem ins_place {key : α → Nat} {x : α} {l : List α} (h : Asc key l) :
    ins key x l = (del key (key x) l).take (place key (key x) (del key (key x) l)).1 ++ [x] ++ (del key (key x) l).drop (place key (key x) (del key (key x) l)).1 := by
  induction l with
  | nil => simp [ins, del, place]
  | cons y l ih =>
    unfold ins del
    by_cases h1 : key y = key x
    · rw [if_pos h1, if_neg (show ¬ key y < key x by omega), if_pos h1]
      have : (place key (key x) l).1 = 0 := by
        cases l with
        | nil => rfl
        | cons z l => unfold place; rw [if_neg (show ¬ key z < key x by have := h.head z (List.mem_cons_self ..); omega)]
      rw [this]; simp
    · rw [if_neg h1, if_neg h1]
      unfold place
      by_cases h2 : key y < key x
      · rw [if_pos h2, if_pos h2, ih h.tail]; simp
      · rw [if_neg h2, if_neg h2]
        have : del key (key x) l = l := by
          rw [del_place h.tail]
          cases e : (place key (key x) l).2 with
          | false => simp
          | true =>
            obtain ⟨hi, he⟩ := place_lt e
            have := h.head _ (List.getElem_mem hi)
            omega
        rw [this]; simp
theorem look_place {key : α → Nat} {n : Nat} {l : List α} (h : Asc key l) : look key l n = if (place key n l).2 then l[(place key n l).1]? else none := by
  induction l with
  | nil => simp [look_nil, place]
  | cons y l ih =>
    rw [look_cons]
    unfold place
    by_cases h1 : key y = n
    · rw [if_pos h1, if_neg (show ¬ key y < n by omega)]; simp [h1]
    · rw [if_neg h1]
      by_cases h2 : key y < n
      · rw [if_pos h2, ih h.tail]; simp
      · rw [if_neg h2, look_below h (by omega)]; simp [h1]
end Go.Proofs.Ytlmgabhdeeehmaa.Od
