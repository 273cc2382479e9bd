/-
  The walks of slices.Clone and edit.own.
-/
import Derived.Test.YtlmgabhdeeehmaaEntC
namespace Go.Proofs.Ytlmgabhdeeehmaa
open Go.RowKit
set_option linter.unusedVariables false
set_option linter.unusedSimpArgs false

/-- a point in a row of numbers -/
def PtNew (w : World) (u : Value) (p : List Nat) : Prop := RdU w u (pti p) ∧ ∃ b o c cur fr, u = .slice (some ⟨b, o, none⟩) p.length c ∧ w.heap[b]? = some (Obj.cells cur 32 fr)
theorem PtNew.rd {w : World} {u : Value} {p : List Nat} (h : PtNew w u p) : RdU w u (pti p) := h.1
theorem PtNew.below {w w' : World} {u : Value} {p : List Nat} (h : PtNew w u p) (hb : Below w.heap.size w w') : PtNew w' u p := by
  obtain ⟨h1, b, o, c, cur, fr, e, h2⟩ := h
  exact ⟨h1.below hb, b, o, c, cur, fr, e, (hb.block b (Array.getElem?_eq_some_iff.1 h2).1).trans h2⟩
/-- a write to a block that holds no numbers -/
theorem PtNew.keepBlock {w w' : World} {u : Value} {p : List Nat} (h : PtNew w u p) (hk : ∀ (b : Nat) (cur : Array Value) (fr : Nat × Nat), w.heap[b]? = some (Obj.cells cur 32 fr) → w'.heap[b]? = w.heap[b]?) : PtNew w' u p := by
  obtain ⟨h1, b, o, c, cur, fr, rfl, h2⟩ := h
  have hb := hk b cur fr h2
  refine ⟨?_, b, o, c, cur, fr, rfl, hb.trans h2⟩
  obtain ⟨A, c', e, hx⟩ := h1
  refine ⟨A, c', e, fun hp => ?_⟩
  obtain ⟨b', o', ha, hc⟩ := hx hp
  refine ⟨b', o', ha, fun j hj => ?_⟩
  have e2 : b' = b := by
    injection e with e1
    rw [ha] at e1
    injection e1 with e1
    injection e1 with e1
    exact e1.symm
  rw [World.cell?_of_block (w := w) (by rw [e2]; exact hb)]
  exact hc j hj
theorem u64Info : (Try.prog.info? 32).map (fun i => (i.zero, i.size, i.bytes)) = some (some (.int .u64 0), 1, 8) := by kernel_rfl
theorem wpList_append_run {P : Program} {w w' : World} {v' : Value} {ops : Array Oper} {rest : List Oper} {o : Oper} {a : Act} {Q : Exit → Act → World → Prop} (hgd : o.guard = none) (s x : Operand) {t : TypeId}
    (ho : o.op = .call { callee := .builtin .append, args := #[s, x], argTypes := #[t, t] }) (hrun : (Builtin.append_ #[t, t] o.type #[a.eval s, a.eval x]).run P w = .ok v' w') (h : wpList P ops Q rest (a.put o.dst v') w') : wpList P ops Q (o :: rest) a w :=
  wpList_plain hgd fun K hK => wp_append_run (s := s) (x := x) ho hrun (hK _ _ h)
/-- what Clone hands back -/
def CloneP (W : World) (p : List Nat) (e : Ending) (w' : World) : Prop := ∃ u, e = .returned u ∧ PtNew w' u p ∧ Below W.heap.size W w'
theorem clone_run (w : World) (p : List Nat) (v : Value) (hv : RdU w v (pti p)) (h1 : 1 ≤ p.length) (h40 : p.length ≤ 40) (ty : TypeId) :
    ∃ v' w', (Builtin.append_ #[22, 22] ty #[.slice (some ⟨w.heap.size, 0, none⟩) 0 0, v]).run Try.prog (w.alloc (.cells #[] 32)) = .ok v' w' ∧ PtNew w' v' p ∧ Below w.heap.size w w' := by
  obtain ⟨A, c, e, hx⟩ := hv
  have hlen : ((pti p).map (Value.int .u64)).length = p.length := by unfold pti; simp
  rw [hlen] at e
  obtain ⟨b, o, rfl, hc⟩ := hx (by rw [hlen]; omega)
  have hba : Below w.heap.size w (w.alloc (.cells #[] 32)) := below_alloc' (Below.refl _ _) _
  obtain ⟨v', w', a1, ⟨a2, a3⟩, a4⟩ := run_append_lit (P := Try.prog) (w.alloc (.cells #[] 32)) w.heap.size 22 ty 32 _ 1 8 Try.underlying22 u64Info rfl (by omega) w.heap.size (World.ownsRow_lit w #[] 0 (Nat.le_refl _) (by simp [maxLen]) (by simp)) v p.length ((pti p).map (Value.int .u64)) ⟨by rw [hlen]; omega, by
      intro u hu
      simp only [List.mem_map] at hu
      obtain ⟨z, _, rfl⟩ := hu
      rfl, _, c, e, (fun h => by cases h), fun ad had j u hj => by
        injection had with had; subst had
        have hjl : j < p.length := by
          have := (List.getElem?_eq_some_iff.1 hj).1
          rw [hlen] at this; exact this
        have := hc j (by rw [hlen]; exact hjl)
        rw [List.getElem?_eq_getElem (by rw [hlen]; exact hjl)] at hj
        injection hj with hj
        rw [← hj]
        refine Below.keeps hba _ _ ?_
        rw [show (⟨b, o, none⟩ : Addr).add j = ⟨b, o + j, none⟩ by
          unfold Addr.add; split
          · rename_i h; subst h; rfl
          · rfl]
        exact this⟩ (by simp only [maxLen]; omega) (by omega) hba.size
  have hbw : Below w.heap.size w w' := hba.trans (a4.mono hba.size)
  refine ⟨v', w', a1, ?_, hbw⟩
  rcases a3 with ⟨_, a3⟩ | ⟨g, cap, cur, rfl, q2, q3, q4, q5, q6, q7⟩
  · omega
  · refine ⟨⟨_, cap, by rw [hlen], fun hp => ⟨g, 0, rfl, fun j hj => ?_⟩⟩, g, 0, cap, cur, _, rfl, q3⟩
    have h3 : ((pti p).map (Value.int .u64))[j]? = some ((pti p).map (Value.int .u64))[j] := List.getElem?_eq_getElem hj
    have h4 : j < p.length * 1 := by rw [hlen] at hj; omega
    rw [← h3, ← q7, List.getElem?_take_of_lt h4, World.cell?]
    simp only [q3, Nat.zero_add]
    simp

set_option maxRecDepth 8000 in
set_option maxHeartbeats 1000000 in
theorem clone_any (p : List Nat) (v : Value) (w : World) (hv : RdU w v (pti p)) (h1 : 1 ≤ p.length) (h40 : p.length ≤ 40) :
    Calls Try.prog 134 #[v] w fun e w' => CloneP w p e w' := by
  obtain ⟨v', w', hrun, r1, r2⟩ := clone_run w p v hv h1 h40 22
  have HR := Lib.hid (And.intro r1 r2)
  clear r1 r2
  obtain ⟨A, c, rfl, hx⟩ := RdU.point hv
  obtain ⟨b, o, rfl, hc⟩ := hx (by omega)
  clear hx hc hv h1 h40
  have he : ∀ w : World, (binOp .eql 22 (.slice (some ⟨b, o, none⟩) p.length c) (.slice none 0 0)).run Try.prog w = .ok (.bool false) w := fun _ => rfl
  go_enter Try.func134, Try.ntmps134
  go_wp2_with ((at_builtin; refine wpList_append_run rfl (.tmp 5) (.tmp 6) rfl hrun ?_))
  go_ret
  exact ⟨v', rfl, HR.out.1, HR.out.2⟩

/-- what own hands back -/
def OwnP (W : World) (c : Ch) (e : Ending) (w' : World) : Prop := ∃ A n cc, e = .returned (AgC (.slice A n cc) c) ∧ PtNew w' (.slice A n cc) c.p ∧ Below W.heap.size W w'
set_option maxRecDepth 8000 in
set_option maxHeartbeats 1000000 in
theorem own_any (c : Ch) (v : Value) (w : World) (hv : RdU w v (pti c.p)) (h1 : 1 ≤ c.p.length) (h40 : c.p.length ≤ 40) :
    Calls Try.prog 82 #[AgC v c] w fun e w' => OwnP w c e w' := by
  have HC := Lib.hid (fun (w' : World) (h : RdU w' v (pti c.p)) => clone_any c.p v w' h h1 h40)
  have HV := Lib.hid hv
  obtain ⟨A, cc, rfl, hx⟩ := RdU.point hv
  clear hx hv h1 h40
  unfold AgC
  go_enter Try.func82, Try.ntmps82
  go_wp2_with fail
  refine (HC.out _ (HV.out.below (by repeat (first | exact Below.refl _ _ | assumption | (refine Below.drew ?_) | (refine below_drewN' ?_ _) | (refine below_alloc' ?_ _))))).mono ?_
  rintro e w1 ⟨u, rfl, hu, hb1⟩
  have ht : ∃ A' n' c', u = .slice A' n' c' := by obtain ⟨_, b, o, c', cur, fr, e, _⟩ := hu; exact ⟨_, _, _, e⟩
  obtain ⟨A', n', c', rfl⟩ := ht
  have hsz : w.heap.size + 1 + 1 ≤ w1.heap.size := by have := hb1.size; simpa using this
  have r0 : w1.cell? ⟨w.heap.size, 0, none⟩ = some (.slice A c.p.length cc) := Below.keeps hb1 _ _ (by simp [go_sem])
  have r1 : w1.cell? ⟨w.heap.size, 1, none⟩ = some (.bool c.had) := Below.keeps hb1 _ _ (by simp [go_sem])
  have r2 : w1.cell? ⟨w.heap.size, 2, none⟩ = some (.bool c.has) := Below.keeps hb1 _ _ (by simp [go_sem])
  have r3 : w1.cell? ⟨w.heap.size, 3, none⟩ = some (.int .u64 (c.old : Nat)) := Below.keeps hb1 _ _ (by simp [go_sem])
  have r4 : w1.cell? ⟨w.heap.size, 4, none⟩ = some (.int .u64 (c.new : Nat)) := Below.keeps hb1 _ _ (by simp [go_sem])
  have s0 : w1.cell? ⟨w.heap.size + 1, 0, none⟩ = some (.slice none 0 0) := Below.keeps hb1 _ _ (by simp [go_sem])
  have s1 : w1.cell? ⟨w.heap.size + 1, 1, none⟩ = some (.bool false) := Below.keeps hb1 _ _ (by simp [go_sem])
  have s2 : w1.cell? ⟨w.heap.size + 1, 2, none⟩ = some (.bool false) := Below.keeps hb1 _ _ (by simp [go_sem])
  have s3 : w1.cell? ⟨w.heap.size + 1, 3, none⟩ = some (.int .u64 0) := Below.keeps hb1 _ _ (by simp [go_sem])
  have s4 : w1.cell? ⟨w.heap.size + 1, 4, none⟩ = some (.int .u64 0) := Below.keeps hb1 _ _ (by simp [go_sem])
  have rf : ∀ k, w1.frozen? ⟨w.heap.size, k, none⟩ = false := by intro k; rw [hb1.frozen (by first | (simp; done) | (simp; omega))]; simp [go_sem]
  have sf : ∀ k, w1.frozen? ⟨w.heap.size + 1, k, none⟩ = false := by intro k; rw [hb1.frozen (by first | (simp; done) | (simp; omega))]; simp [go_sem]
  have rl : w.heap.size < w1.heap.size := by omega
  have sl : w.heap.size + 1 < w1.heap.size := by omega
  have HB1 := Lib.hid (show Below w.heap.size w w1 from (show Below w.heap.size w _ from below_alloc' (below_alloc' (Below.refl _ _) (.cells #[.slice A c.p.length cc, .bool c.had, .bool c.has, .int .u64 (c.old : Nat), .int .u64 (c.new : Nat)] 114)) Zcells).trans (hb1.mono (by simp; omega)))
  have HK1 := Lib.hid (show ∀ (b : Nat) (cur : Array Value) (fr : Nat × Nat), w1.heap[b]? = some (Obj.cells cur 32 fr) → b ≠ w.heap.size ∧ b ≠ w.heap.size + 1 from fun b cur fr hb => by
    have e1 : w1.heap[w.heap.size]? = some (.cells #[.slice A c.p.length cc, .bool c.had, .bool c.has, .int .u64 (c.old : Nat), .int .u64 (c.new : Nat)] 114) := by
      rw [hb1.block _ (by simp; omega), Below.heap_alloc _ _ _ (by simp), heap_alloc_new]
    have e2 : w1.heap[w.heap.size + 1]? = some Zcells := by
      rw [hb1.block _ (by simp)]
      have := heap_alloc_new (w.alloc (.cells #[.slice A c.p.length cc, .bool c.had, .bool c.has, .int .u64 (c.old : Nat), .int .u64 (c.new : Nat)] 114)) Zcells
      rw [World.size_alloc] at this
      exact this
    constructor
    · intro e; subst e; rw [e1] at hb; injection hb with hb; injection hb with _ h1 _; exact absurd h1 (by decide)
    · intro e; subst e; rw [e2] at hb; injection hb with hb; unfold Zcells at hb; injection hb with _ h1 _; exact absurd h1 (by decide))
  have HU := Lib.hid hu
  clear hb1 hu
  go_wp2_with fail
  have hb1 := HB1.out
  refine bodyPost_ret (v := AgC (.slice A' n' c') c) (by simp [results, Try.results82, go_sem, AgC, r0, r1, r2, r3, r4, s0, s1, s2, s3, s4, rf, sf, rl, sl]) rfl ⟨_, _, _, rfl, HU.out.keepBlock (fun b cur fr hb => ?_), (by (repeat (refine Below.setCell ?_ (by first | exact Nat.le_refl _ | (simp; done) | (simp; omega) | omega) _)); exact (by repeat (first | exact Below.refl _ _ | assumption | (refine Below.drew ?_) | (refine below_drewN' ?_ _) | (refine below_alloc' ?_ _))))⟩
  obtain ⟨n1, n2⟩ := HK1.out b cur fr hb
  repeat rw [Below.heap_setCell _ _ _ _ (by first | exact n1 | exact n2)]
end Go.Proofs.Ytlmgabhdeeehmaa
