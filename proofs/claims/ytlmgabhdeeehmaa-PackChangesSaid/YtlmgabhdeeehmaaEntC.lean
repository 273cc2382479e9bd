/-
  Rows of the call's own that hold changes.
-/
import Derived.Test.YtlmgabhdeeehmaaEntA
namespace Go.Proofs.Ytlmgabhdeeehmaa
open Go.RowKit
set_option linter.unusedVariables false

/-- the cells cs hold the changes l, Pt saying what a point's value reads as -/
def CellsC (Pt : Value → List Nat → Prop) : List Ch → List Value → Prop
  | [], cs => cs = []
  | c :: l, cs => ∃ u ds, cs = u :: .bool c.had :: .bool c.has :: .int .u64 (c.old : Nat) :: .int .u64 (c.new : Nat) :: ds ∧ Pt u c.p ∧ CellsC Pt l ds
theorem CellsC.length {Pt : Value → List Nat → Prop} {cs : List Value} {l : List Ch} (h : CellsC Pt l cs) : cs.length = l.length * 5 := by
  induction l generalizing cs with
  | nil => obtain rfl : cs = [] := h; rfl
  | cons e l ih => obtain ⟨u, ds, rfl, _, h⟩ := h; have := ih h; simp; omega
theorem CellsC.append {Pt : Value → List Nat → Prop} {cs ds : List Value} {l m : List Ch} (h : CellsC Pt l cs) (k : CellsC Pt m ds) : CellsC Pt (l ++ m) (cs ++ ds) := by
  induction l generalizing cs with
  | nil => obtain rfl : cs = [] := h; exact k
  | cons e l ih => obtain ⟨u, ds, rfl, hu, h⟩ := h; exact ⟨u, _, rfl, hu, ih h⟩
theorem CellsC.mono {Pt Qt : Value → List Nat → Prop} {cs : List Value} {l : List Ch} (h : CellsC Pt l cs) (hk : ∀ u p, Pt u p → Qt u p) : CellsC Qt l cs := by
  induction l generalizing cs with
  | nil => exact h
  | cons e l ih => obtain ⟨u, ds, rfl, hu, h⟩ := h; exact ⟨u, ds, rfl, hk _ _ hu, ih h⟩
theorem CellsC.oneCell {Pt : Value → List Nat → Prop} {w : World} (hp : ∀ u p, Pt u p → RdU w u (pti p)) {cs : List Value} {l : List Ch} (h : CellsC Pt l cs) : ∀ u ∈ cs, u.oneCell' = true := by
  induction l generalizing cs with
  | nil => obtain rfl : cs = [] := h; intro u hu; simp at hu
  | cons e l ih =>
    obtain ⟨u, ds, rfl, hu, h⟩ := h
    intro y hy
    simp only [List.mem_cons] at hy
    rcases hy with rfl | rfl | rfl | rfl | rfl | hy
    · exact RdU.one' (hp _ _ hu)
    · rfl
    · rfl
    · rfl
    · rfl
    · exact ih h y hy
theorem CellsC.at {Pt : Value → List Nat → Prop} {w : World} (hp : ∀ u p, Pt u p → RdU w u (pti p)) {cs : List Value} {l : List Ch} (h : CellsC Pt l cs) {b o : Nat} (hc : ∀ j (h : j < cs.length), w.cell? ⟨b, o + j, none⟩ = some cs[j]) :
    ∀ j (h : j < l.length), ChAt w b (o + j * 5) l[j] := by
  induction l generalizing cs o with
  | nil => intro j hj; simp at hj
  | cons e l ih =>
    obtain ⟨u, ds, rfl, hu, h⟩ := h
    · intro j hj
      cases j with
      | zero =>
        have c0 := hc 0 (by simp)
        have c1 := hc 1 (by simp)
        have c2 := hc 2 (by simp)
        have c3 := hc 3 (by simp)
        have c4 := hc 4 (by simp)
        simp only [List.getElem_cons_zero, List.getElem_cons_succ, Nat.add_zero] at c0 c1 c2 c3 c4
        simp only [List.getElem_cons_zero, Nat.zero_mul, Nat.add_zero]
        exact ⟨u, c0, hp _ _ hu, c1, c2, c3, c4⟩
      | succ j =>
        have := ih h (o := o + 5) (fun i hi => by
          have := hc (i + 5) (by simpa using hi)
          simp only [List.getElem_cons_succ] at this
          rw [show o + 5 + i = o + (i + 5) by omega]; exact this) j (by simpa using hj)
        simp only [List.getElem_cons_succ]
        rw [show o + (j + 1) * 5 = o + 5 + j * 5 by omega]; exact this
/-- v is a row of the call's own (the call began in W) that holds the changes l -/
def OwnC (Pt : Value → List Nat → Prop) (W w : World) (v : Value) (l : List Ch) : Prop := ∃ cs, w.ownsRow W.heap.size 114 5 v l.length cs ∧ CellsC Pt l cs
theorem OwnC.rd {Pt : Value → List Nat → Prop} {W w : World} {v : Value} {l : List Ch} (h : OwnC Pt W w v l) (hp : ∀ u p, Pt u p → RdU w u (pti p)) : RdC w v l ∧ CapOk v := by
  obtain ⟨cs, ho, hc⟩ := h
  obtain ⟨h1, h2⟩ := ho
  rcases h2 with ⟨rfl, h0⟩ | ⟨g, cap, cur, rfl, hg, hh, hcap, hm, hs, ht⟩
  · exact ⟨⟨none, 0, by rw [h0], fun hp => absurd hp (by omega)⟩, none, 0, 0, rfl, Nat.le_refl _, Nat.zero_le _, fun h => absurd h (by omega)⟩
  · refine ⟨⟨_, _, rfl, fun h0 => ⟨g, 0, rfl, hc.at hp fun j hj => ?_⟩⟩, _, _, _, rfl, hcap, hm, fun _ => ⟨g, 0, rfl⟩⟩
    have h3 : cs[j]? = some cs[j] := List.getElem?_eq_getElem hj
    have h4 : j < l.length * 5 := by omega
    rw [← h3, ← ht, List.getElem?_take_of_lt h4, World.cell?]
    simp only [hh, Nat.zero_add]
    simp
theorem OwnC.nil (Pt : Value → List Nat → Prop) (W w : World) : OwnC Pt W w (.slice none 0 0) [] := ⟨[], World.ownsRow_nil _ _ _ _, rfl⟩
theorem OwnC.mono {Pt Qt : Value → List Nat → Prop} {W w : World} {v : Value} {l : List Ch} (h : OwnC Pt W w v l) (hk : ∀ u p, Pt u p → Qt u p) : OwnC Qt W w v l := let ⟨cs, h1, h2⟩ := h; ⟨cs, h1, h2.mono hk⟩
theorem OwnC.alloc {Pt : Value → List Nat → Prop} {W w : World} {v : Value} {l : List Ch} (h : OwnC Pt W w v l) (o : Obj) : OwnC Pt W (w.alloc o) v l := let ⟨cs, h1, h2⟩ := h; ⟨cs, h1.alloc o, h2⟩
theorem OwnC.drewN {Pt : Value → List Nat → Prop} {W w : World} {v : Value} {l : List Ch} (h : OwnC Pt W w v l) (n : Nat) : OwnC Pt W (w.drewN n) v l := h
theorem OwnC.lit {Pt : Value → List Nat → Prop} {W w : World} (hb : W.heap.size ≤ w.heap.size) {g : Nat} (hg : g = w.heap.size) : OwnC Pt W (w.alloc (.cells #[] 114)) (.slice (some ⟨g, 0, none⟩) 0 0) [] := by
  subst hg; exact ⟨[], World.ownsRow_lit w #[] 0 hb (by simp [maxLen]) (by simp), rfl⟩
theorem OwnC.below {Pt : Value → List Nat → Prop} {W w w' : World} {v : Value} {l : List Ch} (h : OwnC Pt W w v l) (hb : Below w.heap.size w w') : OwnC Pt W w' v l := by
  obtain ⟨cs, ⟨h1, h2⟩, h3⟩ := h
  refine ⟨cs, ⟨h1, ?_⟩, h3⟩
  rcases h2 with h2 | ⟨g, cap, cur, q1, q2, q3, q4⟩
  · exact .inl h2
  · exact .inr ⟨g, cap, cur, q1, q2, (hb.block g (Array.getElem?_eq_some_iff.1 q3).1).trans q3, q4⟩
/-- the own block is a row of changes -/
theorem OwnC.block {Pt : Value → List Nat → Prop} {W w : World} {v : Value} {l : List Ch} (h : OwnC Pt W w v l) : ∀ k, v.ownBlock = some k → W.heap.size ≤ k ∧ ∃ cur, w.heap[k]? = some (.cells cur 114 (0, 0)) := by
  obtain ⟨cs, ⟨h1, h2⟩, h3⟩ := h
  intro k hk
  rcases h2 with ⟨rfl, _⟩ | ⟨g, cap, cur, rfl, q2, q3, q4⟩
  · cases hk
  · injection hk with hk; subst hk; exact ⟨q2, cur, q3⟩
/-- one change to be appended -/
def SrcC (Pt : Value → List Nat → Prop) (w : World) (x : Value) (c : Ch) : Prop :=
  ∃ b cc u, x = .slice (some ⟨b, 0, none⟩) 1 cc ∧ w.cell? ⟨b, 0, none⟩ = some u ∧ Pt u c.p ∧ w.cell? ⟨b, 1, none⟩ = some (.bool c.had) ∧ w.cell? ⟨b, 2, none⟩ = some (.bool c.has) ∧ w.cell? ⟨b, 3, none⟩ = some (.int .u64 (c.old : Nat)) ∧ w.cell? ⟨b, 4, none⟩ = some (.int .u64 (c.new : Nat))
theorem run_append_C {Pt : Value → List Nat → Prop} (W w : World) (hp : ∀ u p, Pt u p → RdU w u (pti p)) (v x : Value) (l : List Ch) (c : Ch) (hown : OwnC Pt W w v l) (hx : SrcC Pt w x c) (hb : W.heap.size ≤ w.heap.size) (hlen : l.length ≤ 100000) (ty : TypeId) :
    ∃ v' w', (Builtin.append_ #[62, 62] ty #[v, x]).run Try.prog w = .ok v' w' ∧ OwnC Pt W w' v' (l ++ [c]) ∧ w.grownBy w' v.ownBlock := by
  obtain ⟨cs, ho, hc⟩ := hown
  obtain ⟨b, cc, u, rfl, k0, ku, k1, k2, k3, k4⟩ := hx
  have hn : CellsC Pt [c] [u, .bool c.had, .bool c.has, .int .u64 (c.old : Nat), .int .u64 (c.new : Nat)] := ⟨u, [], rfl, ku, rfl⟩
  obtain ⟨v', w', a1, a2, a3⟩ := run_append_src (P := Try.prog) w W.heap.size 62 ty 114 _ 5 48 Try.underlying62 changeInfo rfl (by omega) v l.length cs ho (.slice (some ⟨b, 0, none⟩) 1 cc) 1 [u, .bool c.had, .bool c.has, .int .u64 (c.old : Nat), .int .u64 (c.new : Nat)]
    ⟨rfl, hn.oneCell hp, _, cc, rfl, (fun h => by cases h), fun ad had j x hj => by
      injection had with had; subst had
      match j with
      | 0 => simp at hj; subst hj; simpa [Addr.add] using k0
      | 1 => simp at hj; subst hj; simpa [Addr.add] using k1
      | 2 => simp at hj; subst hj; simpa [Addr.add] using k2
      | 3 => simp at hj; subst hj; simpa [Addr.add] using k3
      | 4 => simp at hj; subst hj; simpa [Addr.add] using k4
      | j + 5 => simp at hj⟩ (by simp only [maxLen]; omega) (by omega) hb
  exact ⟨v', w', a1, ⟨_, by rw [List.length_append]; exact a2, hc.append hn⟩, a3⟩
theorem wpList_append_C {Pt : Value → List Nat → Prop} {w : World} {ops : Array Oper} {rest : List Oper} {o : Oper} {a : Act} {Q : Exit → Act → World → Prop} (hgd : o.guard = none) (s x : Operand)
    (ho : o.op = .call { callee := .builtin .append, args := #[s, x], argTypes := #[62, 62] }) (W : World) (l : List Ch) (c : Ch)
    (hp : ∀ u p, Pt u p → RdU w u (pti p)) (hown : OwnC Pt W w (a.eval s) l) (hx : SrcC Pt w (a.eval x) c) (hb : W.heap.size ≤ w.heap.size) (hlen : l.length ≤ 100000)
    (h : ∀ v' w', OwnC Pt W w' v' (l ++ [c]) → w.grownBy w' (a.eval s).ownBlock → wpList Try.prog ops Q rest (a.put o.dst v') w') : wpList Try.prog ops Q (o :: rest) a w := by
  refine wpList_plain hgd fun K hK => ?_
  obtain ⟨v', w', hrun, r1, r2⟩ := run_append_C W w hp _ _ l c hown hx hb hlen o.type
  unfold Oper.wp
  simp [execOp, ho, resolve, invoke, builtin, hrun, Result.andThen]
  exact hK _ _ (h v' w' r1 r2)
theorem OwnC.grown {Pt : Value → List Nat → Prop} {W w w' : World} {v : Value} {l : List Ch} (h : OwnC Pt W w v l) (hb : Below W.heap.size W w) (hg : w.grownBy w' v.ownBlock) : Below W.heap.size W w' :=
  hb.grown hg hb.size fun k hk => (h.block k hk).1
end Go.Proofs.Ytlmgabhdeeehmaa
