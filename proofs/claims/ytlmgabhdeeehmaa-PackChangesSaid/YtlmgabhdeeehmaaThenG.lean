/-
  The walk of the closure that edit.Then hands to pairs: of two changes of one point.
-/
import Derived.Test.YtlmgabhdeeehmaaThenF
namespace Go.Proofs.Ytlmgabhdeeehmaa
open Go.RowKit
set_option linter.unusedVariables false
set_option linter.unusedSimpArgs false

/-- what the closure says of a pair -/
def TellP (W : World) (B : Nat) (o : List Ch) (p : Option Ch × Option Ch) (e : Ending) (w' : World) : Prop :=
  e = .returned (.bool (fitC p)) ∧ (fitC p = true → InvT W B (o ++ (combC p).toList) w') ∧ Below W.heap.size W w'

theorem cells_setCell {w : World} {b k : Nat} {cur : Array Value} {u : Value} {t : TypeId} {fr : Nat × Nat} (h : w.heap[b]? = some (.cells cur t fr)) : (w.setCell ⟨b, k, none⟩ u).heap[b]? = some (.cells (cur.setIfInBounds k u) t fr) := by
  have hlt := lt_of_block h
  have h' : w.heap[b] = .cells cur t fr := by simpa [Array.getElem?_eq_getElem hlt] using h
  show (w.heap.modify b _)[b]? = _
  rw [Array.getElem?_eq_getElem (by simpa using hlt), Array.getElem_modify_self, h']
  rfl
theorem store5 {w3 : World} {g : Nat} (hg : w3.heap[g]? = some Zcells) (a b c d e : Value) :
    (((((w3.setCell ⟨g, 0, none⟩ a).setCell ⟨g, 1, none⟩ b).setCell ⟨g, 2, none⟩ c).setCell ⟨g, 3, none⟩ d).setCell ⟨g, 4, none⟩ e).heap[g]? = some (.cells #[a, b, c, d, e] 114 (0, 0)) ∧
    (∀ k, k ≠ g → (((((w3.setCell ⟨g, 0, none⟩ a).setCell ⟨g, 1, none⟩ b).setCell ⟨g, 2, none⟩ c).setCell ⟨g, 3, none⟩ d).setCell ⟨g, 4, none⟩ e).heap[k]? = w3.heap[k]?) ∧
    (∀ B, B ≤ g → Below B w3 (((((w3.setCell ⟨g, 0, none⟩ a).setCell ⟨g, 1, none⟩ b).setCell ⟨g, 2, none⟩ c).setCell ⟨g, 3, none⟩ d).setCell ⟨g, 4, none⟩ e)) := by
  refine ⟨?_, fun k hk => ?_, fun B hB => ?_⟩
  · have := cells_setCell (k := 4) (u := e) (cells_setCell (k := 3) (u := d) (cells_setCell (k := 2) (u := c) (cells_setCell (k := 1) (u := b) (cells_setCell (k := 0) (u := a) hg))))
    exact this
  · repeat rw [Below.heap_setCell _ _ _ _ hk]
  · exact (((((Below.refl B w3).setCell hB _).setCell hB _).setCell hB _).setCell hB _).setCell hB _

theorem InvT.bel {W w : World} {B : Nat} {o : List Ch} (h : InvT W B o w) : Below W.heap.size W w := let ⟨_, _, _, h⟩ := h; h
theorem InvT.below {W w w' : World} {B : Nat} {o : List Ch} (h : InvT W B o w) (hB : B < w.heap.size) (hb : Below w.heap.size w w') : InvT W B o w' :=
  let ⟨vo, h1, h2, h3⟩ := h
  ⟨vo, (hb.block B hB).trans h1, (h2.below hb).mono fun u p h => h.below hb, h3.trans (hb.mono h3.size)⟩
set_option maxRecDepth 8000 in
set_option maxHeartbeats 4000000 in
theorem tellXY (W w : World) (B : Nat) (o : List Ch) (x y : Ch) (px py : Value) (hW : W.heap.size ≤ B) (hi : InvT W B o w) (hx : PtrC w px (some x)) (hy : PtrC w py (some y)) (h1 : 1 ≤ x.p.length) (h40 : x.p.length ≤ 40) (hol : o.length ≤ 10000) :
    Calls Try.prog 81 #[px, py, .pointer (some ⟨B, 0, none⟩)] w fun e w' => TellP W B o (some x, some y) e w' := by
  obtain ⟨bx, ox, rfl, vx, k0, hv, k1, k2, k3, k4⟩ := hx
  obtain ⟨by1, oy, rfl, vy, m0, hvy, m1, m2, m3, m4⟩ := hy
  have HV := Lib.hid hv
  obtain ⟨Ax, cx, rfl, hx0⟩ := RdU.point hv
  clear hv hvy hx0 m0
  obtain ⟨vo, hblk, hown, hbW⟩ := hi
  have kb := cell_of_one hblk
  have HI := Lib.hid (And.intro hblk (And.intro hown (And.intro hbW (And.intro hW hol))))
  have hlB : B < w.heap.size := lt_of_block hblk
  have hlx : bx < w.heap.size := World.block_lt_of_cell? w _ k0
  have hly : by1 < w.heap.size := World.block_lt_of_cell? w _ m1
  clear hblk hown hbW hW hol
  obtain ⟨xp, xhad, xhas, xold, xnew⟩ := x
  obtain ⟨yp, yhad, yhas, yold, ynew⟩ := y
  simp only at k0 k1 k2 k3 k4 m1 m2 m3 m4 h1 h40
  have HO := Lib.hid (show ∀ w', RdU w' (.slice Ax xp.length cx) (pti xp) → Calls Try.prog 82 #[.agg #[.slice Ax xp.length cx, .bool xhad, .bool yhas, .int .u64 (xold : Nat), .int .u64 (ynew : Nat)]] w' fun e w'' => OwnP w' ⟨xp, xhad, yhas, xold, ynew⟩ e w'' from fun w' h => own_any ⟨xp, xhad, yhas, xold, ynew⟩ _ w' h h1 h40)
  have HRi := Lib.hid (fun (v : Value) (w : World) => right_any v ⟨xp, xhad, yhas, xold, ynew⟩ w)
  simp only at HRi HV
  clear h1 h40
  obtain ⟨b4, e4⟩ : ∃ b, ((xnew : Int) != (yold : Int)) = b := ⟨_, rfl⟩
  have he4 : decide ((xnew : Int) ≠ (yold : Int)) = b4 := by rw [← e4]; by_cases e : (xnew : Int) = yold <;> simp [e]
  have HF := Lib.hid (show fitC (some (⟨xp, xhad, xhas, xold, xnew⟩ : Ch), some (⟨yp, yhad, yhas, yold, ynew⟩ : Ch)) = !(xhas != yhad || b4) by unfold fitC; simp only; rw [he4])
  have HCo := Lib.hid (show (combC (some (⟨xp, xhad, xhas, xold, xnew⟩ : Ch), some (⟨yp, yhad, yhas, yold, ynew⟩ : Ch))).toList = if (⟨xp, xhad, yhas, xold, ynew⟩ : Ch).right then [⟨xp, xhad, yhas, xold, ynew⟩] else [] by
    show (if (joinC _ _).right = true then some (joinC _ _) else none).toList = _
    unfold joinC
    split <;> rfl)
  clear he4
  obtain ⟨rr, hrr⟩ : ∃ rr, (⟨xp, xhad, yhas, xold, ynew⟩ : Ch).right = rr := ⟨_, rfl⟩
  rw [hrr] at HRi HCo
  clear hrr
  unfold TellP
  rw [HF.out]
  generalize (combC (some (⟨xp, xhad, xhas, xold, xnew⟩ : Ch), some (⟨yp, yhad, yhas, yold, ynew⟩ : Ch))).toList = cl at *
  clear HF
  cases xhas <;> cases yhad <;> cases b4
  all_goals
    go_enter Try.func81, Try.ntmps81
    go_wp2_with fail
    go_quiet (fail)
    go_wp2_with fail
  all_goals first
    | (go_ret
       have hbW := HI.out.2.2.1
       exact ⟨rfl, fun h => absurd h (by decide), by repeat (first | exact hbW | (refine Below.drew ?_) | (refine (Below.trans (b := w) ?_ ((drewN_below w _).mono hbW.size))))⟩)
    | skip
  all_goals
    refine wp_region_vals 23 [fun v _ => v = .pointer (some ⟨bx, ox, none⟩),
      fun v _ => v = .pointer (some ⟨bx, ox, none⟩),
      fun v _ => v = .pointer (some ⟨bx, ox, none⟩),
      fun v _ => v = .slice Ax xp.length cx,
      fun v _ => v = .pointer (some ⟨bx, ox, none⟩),
      fun v _ => v = .pointer (some ⟨bx, ox, none⟩),
      fun v _ => v = .pointer (some ⟨bx, ox + 1, none⟩),
      fun v _ => v = .bool xhad,
      fun v _ => v = .pointer (some ⟨by1, oy, none⟩),
      fun v _ => v = .pointer (some ⟨by1, oy, none⟩),
      fun v _ => v = .pointer (some ⟨by1, oy + 2, none⟩),
      fun v _ => v = .bool yhas,
      fun v _ => v = .pointer (some ⟨bx, ox, none⟩),
      fun v _ => v = .pointer (some ⟨bx, ox, none⟩),
      fun v _ => v = .pointer (some ⟨bx, ox + 3, none⟩),
      fun v _ => v = .int .u64 (xold : Nat),
      fun v _ => v = .pointer (some ⟨by1, oy, none⟩),
      fun v _ => v = .pointer (some ⟨by1, oy, none⟩),
      fun v _ => v = .pointer (some ⟨by1, oy + 4, none⟩),
      fun v _ => v = .int .u64 (ynew : Nat),
      fun v _ => v = .agg #[.slice Ax xp.length cx, .bool xhad, .bool yhas, .int .u64 (xold : Nat), .int .u64 (ynew : Nat)],
      fun v9 w9 => ∃ A9 n9 c9, v9 = .agg #[.slice A9 n9 c9, .bool xhad, .bool yhas, .int .u64 (xold : Nat), .int .u64 (ynew : Nat)] ∧ PtNew w9 (.slice A9 n9 c9) xp,
      fun v9 w9 => ∃ g, v9 = .pointer (some ⟨g, 0, none⟩) ∧ w.heap.size ≤ g ∧ w9.heap[g]? = some Zcells]
      (by kernel_rfl) (by kernel_rfl) (by kernel_rfl) (by kernel_rfl) ?_ ?_ ?_
    · intro V hV v w1 w2 h hb
      simp only [List.mem_cons, List.not_mem_nil, or_false] at hV
      rcases hV with rfl | rfl | rfl | rfl | rfl | rfl | rfl | rfl | rfl | rfl | rfl | rfl | rfl | rfl | rfl | rfl | rfl | rfl | rfl | rfl | rfl | rfl | rfl
      all_goals first | exact h | (first | (obtain ⟨A9, n9, c9, h1, h2⟩ := h; exact ⟨A9, n9, c9, h1, h2.below hb⟩) | (obtain ⟨g, h1, h2, h3⟩ := h; exact ⟨g, h1, h2, (hb.block g (Array.getElem?_eq_some_iff.1 h3).1).trans h3⟩))
    · intro i o hi ho
      match i, hi with
      | 0, _ =>
      obtain rfl := Option.some.inj ho
      intro a1 w1 K hk hK
      have e0 : a1.tmps.getD 0 undef = .pointer (some ⟨bx, ox, none⟩) := hk.same 0 (by simp)
      simp [Region.wanted, Oper.wp, Act.eval, go_sem, e0, k0, k1, k3, m2, m4]
      exact hK _ _ (Below.refl _ _) rfl
      | 1, _ =>
      obtain rfl := Option.some.inj ho
      intro a1 w1 K hk hK
      have d7 : a1.tmps.getD 7 undef = .pointer (some ⟨bx, ox, none⟩) := hk.deps ⟨0, .data⟩ (by simp) rfl _ _ rfl rfl
      simp [Region.wanted, Oper.wp, Act.eval, go_sem, d7, k0, k1, k3, m2, m4]
      exact hK _ _ (Below.refl _ _) rfl
      | 2, _ =>
      obtain rfl := Option.some.inj ho
      intro a1 w1 K hk hK
      have d8 : a1.tmps.getD 8 undef = .pointer (some ⟨bx, ox, none⟩) := hk.deps ⟨1, .data⟩ (by simp) rfl _ _ rfl rfl
      simp [Region.wanted, Oper.wp, Act.eval, go_sem, d8, k0, k1, k3, m2, m4]
      exact hK _ _ (Below.refl _ _) rfl
      | 3, _ =>
      obtain rfl := Option.some.inj ho
      intro a1 w1 K hk hK
      have d9 : a1.tmps.getD 9 undef = .pointer (some ⟨bx, ox, none⟩) := hk.deps ⟨2, .data⟩ (by simp) rfl _ _ rfl rfl
      have c0 : w1.cell? ⟨bx, ox, none⟩ = some (.slice Ax xp.length cx) := Below.keeps hk.ext _ _ (by simp [go_sem, k0, k1, k3, m2, m4])
      have c1 : w1.cell? ⟨bx, ox + 1, none⟩ = some (.bool xhad) := Below.keeps hk.ext _ _ (by simp [go_sem, k0, k1, k3, m2, m4])
      have c2 : w1.cell? ⟨bx, ox + 3, none⟩ = some (.int .u64 (xold : Nat)) := Below.keeps hk.ext _ _ (by simp [go_sem, k0, k1, k3, m2, m4])
      have c3 : w1.cell? ⟨by1, oy + 2, none⟩ = some (.bool yhas) := Below.keeps hk.ext _ _ (by simp [go_sem, k0, k1, k3, m2, m4])
      have c4 : w1.cell? ⟨by1, oy + 4, none⟩ = some (.int .u64 (ynew : Nat)) := Below.keeps hk.ext _ _ (by simp [go_sem, k0, k1, k3, m2, m4])
      simp [Region.wanted, Oper.wp, Act.eval, go_sem, d9, c0, c1, c2, c3, c4, k0, k1, k3, m2, m4]
      exact hK _ _ (Below.refl _ _) rfl
      | 4, _ =>
      obtain rfl := Option.some.inj ho
      intro a1 w1 K hk hK
      have e0 : a1.tmps.getD 0 undef = .pointer (some ⟨bx, ox, none⟩) := hk.same 0 (by simp)
      simp [Region.wanted, Oper.wp, Act.eval, go_sem, e0, k0, k1, k3, m2, m4]
      exact hK _ _ (Below.refl _ _) rfl
      | 5, _ =>
      obtain rfl := Option.some.inj ho
      intro a1 w1 K hk hK
      have d11 : a1.tmps.getD 11 undef = .pointer (some ⟨bx, ox, none⟩) := hk.deps ⟨4, .data⟩ (by simp) rfl _ _ rfl rfl
      simp [Region.wanted, Oper.wp, Act.eval, go_sem, d11, k0, k1, k3, m2, m4]
      exact hK _ _ (Below.refl _ _) rfl
      | 6, _ =>
      obtain rfl := Option.some.inj ho
      intro a1 w1 K hk hK
      have d12 : a1.tmps.getD 12 undef = .pointer (some ⟨bx, ox, none⟩) := hk.deps ⟨5, .data⟩ (by simp) rfl _ _ rfl rfl
      simp [Region.wanted, Oper.wp, Act.eval, go_sem, d12, k0, k1, k3, m2, m4]
      exact hK _ _ (Below.refl _ _) rfl
      | 7, _ =>
      obtain rfl := Option.some.inj ho
      intro a1 w1 K hk hK
      have d13 : a1.tmps.getD 13 undef = .pointer (some ⟨bx, ox + 1, none⟩) := hk.deps ⟨6, .data⟩ (by simp) rfl _ _ rfl rfl
      have c0 : w1.cell? ⟨bx, ox, none⟩ = some (.slice Ax xp.length cx) := Below.keeps hk.ext _ _ (by simp [go_sem, k0, k1, k3, m2, m4])
      have c1 : w1.cell? ⟨bx, ox + 1, none⟩ = some (.bool xhad) := Below.keeps hk.ext _ _ (by simp [go_sem, k0, k1, k3, m2, m4])
      have c2 : w1.cell? ⟨bx, ox + 3, none⟩ = some (.int .u64 (xold : Nat)) := Below.keeps hk.ext _ _ (by simp [go_sem, k0, k1, k3, m2, m4])
      have c3 : w1.cell? ⟨by1, oy + 2, none⟩ = some (.bool yhas) := Below.keeps hk.ext _ _ (by simp [go_sem, k0, k1, k3, m2, m4])
      have c4 : w1.cell? ⟨by1, oy + 4, none⟩ = some (.int .u64 (ynew : Nat)) := Below.keeps hk.ext _ _ (by simp [go_sem, k0, k1, k3, m2, m4])
      simp [Region.wanted, Oper.wp, Act.eval, go_sem, d13, c0, c1, c2, c3, c4, k0, k1, k3, m2, m4]
      exact hK _ _ (Below.refl _ _) rfl
      | 8, _ =>
      obtain rfl := Option.some.inj ho
      intro a1 w1 K hk hK
      have e1 : a1.tmps.getD 1 undef = .pointer (some ⟨by1, oy, none⟩) := hk.same 1 (by simp)
      simp [Region.wanted, Oper.wp, Act.eval, go_sem, e1, k0, k1, k3, m2, m4]
      exact hK _ _ (Below.refl _ _) rfl
      | 9, _ =>
      obtain rfl := Option.some.inj ho
      intro a1 w1 K hk hK
      have d15 : a1.tmps.getD 15 undef = .pointer (some ⟨by1, oy, none⟩) := hk.deps ⟨8, .data⟩ (by simp) rfl _ _ rfl rfl
      simp [Region.wanted, Oper.wp, Act.eval, go_sem, d15, k0, k1, k3, m2, m4]
      exact hK _ _ (Below.refl _ _) rfl
      | 10, _ =>
      obtain rfl := Option.some.inj ho
      intro a1 w1 K hk hK
      have d16 : a1.tmps.getD 16 undef = .pointer (some ⟨by1, oy, none⟩) := hk.deps ⟨9, .data⟩ (by simp) rfl _ _ rfl rfl
      simp [Region.wanted, Oper.wp, Act.eval, go_sem, d16, k0, k1, k3, m2, m4]
      exact hK _ _ (Below.refl _ _) rfl
      | 11, _ =>
      obtain rfl := Option.some.inj ho
      intro a1 w1 K hk hK
      have d17 : a1.tmps.getD 17 undef = .pointer (some ⟨by1, oy + 2, none⟩) := hk.deps ⟨10, .data⟩ (by simp) rfl _ _ rfl rfl
      have c0 : w1.cell? ⟨bx, ox, none⟩ = some (.slice Ax xp.length cx) := Below.keeps hk.ext _ _ (by simp [go_sem, k0, k1, k3, m2, m4])
      have c1 : w1.cell? ⟨bx, ox + 1, none⟩ = some (.bool xhad) := Below.keeps hk.ext _ _ (by simp [go_sem, k0, k1, k3, m2, m4])
      have c2 : w1.cell? ⟨bx, ox + 3, none⟩ = some (.int .u64 (xold : Nat)) := Below.keeps hk.ext _ _ (by simp [go_sem, k0, k1, k3, m2, m4])
      have c3 : w1.cell? ⟨by1, oy + 2, none⟩ = some (.bool yhas) := Below.keeps hk.ext _ _ (by simp [go_sem, k0, k1, k3, m2, m4])
      have c4 : w1.cell? ⟨by1, oy + 4, none⟩ = some (.int .u64 (ynew : Nat)) := Below.keeps hk.ext _ _ (by simp [go_sem, k0, k1, k3, m2, m4])
      simp [Region.wanted, Oper.wp, Act.eval, go_sem, d17, c0, c1, c2, c3, c4, k0, k1, k3, m2, m4]
      exact hK _ _ (Below.refl _ _) rfl
      | 12, _ =>
      obtain rfl := Option.some.inj ho
      intro a1 w1 K hk hK
      have e0 : a1.tmps.getD 0 undef = .pointer (some ⟨bx, ox, none⟩) := hk.same 0 (by simp)
      simp [Region.wanted, Oper.wp, Act.eval, go_sem, e0, k0, k1, k3, m2, m4]
      exact hK _ _ (Below.refl _ _) rfl
      | 13, _ =>
      obtain rfl := Option.some.inj ho
      intro a1 w1 K hk hK
      have d19 : a1.tmps.getD 19 undef = .pointer (some ⟨bx, ox, none⟩) := hk.deps ⟨12, .data⟩ (by simp) rfl _ _ rfl rfl
      simp [Region.wanted, Oper.wp, Act.eval, go_sem, d19, k0, k1, k3, m2, m4]
      exact hK _ _ (Below.refl _ _) rfl
      | 14, _ =>
      obtain rfl := Option.some.inj ho
      intro a1 w1 K hk hK
      have d20 : a1.tmps.getD 20 undef = .pointer (some ⟨bx, ox, none⟩) := hk.deps ⟨13, .data⟩ (by simp) rfl _ _ rfl rfl
      simp [Region.wanted, Oper.wp, Act.eval, go_sem, d20, k0, k1, k3, m2, m4]
      exact hK _ _ (Below.refl _ _) rfl
      | 15, _ =>
      obtain rfl := Option.some.inj ho
      intro a1 w1 K hk hK
      have d21 : a1.tmps.getD 21 undef = .pointer (some ⟨bx, ox + 3, none⟩) := hk.deps ⟨14, .data⟩ (by simp) rfl _ _ rfl rfl
      have c0 : w1.cell? ⟨bx, ox, none⟩ = some (.slice Ax xp.length cx) := Below.keeps hk.ext _ _ (by simp [go_sem, k0, k1, k3, m2, m4])
      have c1 : w1.cell? ⟨bx, ox + 1, none⟩ = some (.bool xhad) := Below.keeps hk.ext _ _ (by simp [go_sem, k0, k1, k3, m2, m4])
      have c2 : w1.cell? ⟨bx, ox + 3, none⟩ = some (.int .u64 (xold : Nat)) := Below.keeps hk.ext _ _ (by simp [go_sem, k0, k1, k3, m2, m4])
      have c3 : w1.cell? ⟨by1, oy + 2, none⟩ = some (.bool yhas) := Below.keeps hk.ext _ _ (by simp [go_sem, k0, k1, k3, m2, m4])
      have c4 : w1.cell? ⟨by1, oy + 4, none⟩ = some (.int .u64 (ynew : Nat)) := Below.keeps hk.ext _ _ (by simp [go_sem, k0, k1, k3, m2, m4])
      simp [Region.wanted, Oper.wp, Act.eval, go_sem, d21, c0, c1, c2, c3, c4, k0, k1, k3, m2, m4]
      exact hK _ _ (Below.refl _ _) rfl
      | 16, _ =>
      obtain rfl := Option.some.inj ho
      intro a1 w1 K hk hK
      have e1 : a1.tmps.getD 1 undef = .pointer (some ⟨by1, oy, none⟩) := hk.same 1 (by simp)
      simp [Region.wanted, Oper.wp, Act.eval, go_sem, e1, k0, k1, k3, m2, m4]
      exact hK _ _ (Below.refl _ _) rfl
      | 17, _ =>
      obtain rfl := Option.some.inj ho
      intro a1 w1 K hk hK
      have d23 : a1.tmps.getD 23 undef = .pointer (some ⟨by1, oy, none⟩) := hk.deps ⟨16, .data⟩ (by simp) rfl _ _ rfl rfl
      simp [Region.wanted, Oper.wp, Act.eval, go_sem, d23, k0, k1, k3, m2, m4]
      exact hK _ _ (Below.refl _ _) rfl
      | 18, _ =>
      obtain rfl := Option.some.inj ho
      intro a1 w1 K hk hK
      have d24 : a1.tmps.getD 24 undef = .pointer (some ⟨by1, oy, none⟩) := hk.deps ⟨17, .data⟩ (by simp) rfl _ _ rfl rfl
      simp [Region.wanted, Oper.wp, Act.eval, go_sem, d24, k0, k1, k3, m2, m4]
      exact hK _ _ (Below.refl _ _) rfl
      | 19, _ =>
      obtain rfl := Option.some.inj ho
      intro a1 w1 K hk hK
      have d25 : a1.tmps.getD 25 undef = .pointer (some ⟨by1, oy + 4, none⟩) := hk.deps ⟨18, .data⟩ (by simp) rfl _ _ rfl rfl
      have c0 : w1.cell? ⟨bx, ox, none⟩ = some (.slice Ax xp.length cx) := Below.keeps hk.ext _ _ (by simp [go_sem, k0, k1, k3, m2, m4])
      have c1 : w1.cell? ⟨bx, ox + 1, none⟩ = some (.bool xhad) := Below.keeps hk.ext _ _ (by simp [go_sem, k0, k1, k3, m2, m4])
      have c2 : w1.cell? ⟨bx, ox + 3, none⟩ = some (.int .u64 (xold : Nat)) := Below.keeps hk.ext _ _ (by simp [go_sem, k0, k1, k3, m2, m4])
      have c3 : w1.cell? ⟨by1, oy + 2, none⟩ = some (.bool yhas) := Below.keeps hk.ext _ _ (by simp [go_sem, k0, k1, k3, m2, m4])
      have c4 : w1.cell? ⟨by1, oy + 4, none⟩ = some (.int .u64 (ynew : Nat)) := Below.keeps hk.ext _ _ (by simp [go_sem, k0, k1, k3, m2, m4])
      simp [Region.wanted, Oper.wp, Act.eval, go_sem, d25, c0, c1, c2, c3, c4, k0, k1, k3, m2, m4]
      exact hK _ _ (Below.refl _ _) rfl
      | 20, _ =>
      obtain rfl := Option.some.inj ho
      intro a1 w1 K hk hK
      have d10 : a1.tmps.getD 10 undef = .slice Ax xp.length cx := hk.deps ⟨3, .data⟩ (by simp) rfl _ _ rfl rfl
      have d10x : a1.tmps[10]?.getD undef = .slice Ax xp.length cx := by rw [← d10]; simp
      have d14 : a1.tmps.getD 14 undef = .bool xhad := hk.deps ⟨7, .data⟩ (by simp) rfl _ _ rfl rfl
      have d14x : a1.tmps[14]?.getD undef = .bool xhad := by rw [← d14]; simp
      have d18 : a1.tmps.getD 18 undef = .bool yhas := hk.deps ⟨11, .data⟩ (by simp) rfl _ _ rfl rfl
      have d18x : a1.tmps[18]?.getD undef = .bool yhas := by rw [← d18]; simp
      have d22 : a1.tmps.getD 22 undef = .int .u64 (xold : Nat) := hk.deps ⟨15, .data⟩ (by simp) rfl _ _ rfl rfl
      have d22x : a1.tmps[22]?.getD undef = .int .u64 (xold : Nat) := by rw [← d22]; simp
      have d26 : a1.tmps.getD 26 undef = .int .u64 (ynew : Nat) := hk.deps ⟨19, .data⟩ (by simp) rfl _ _ rfl rfl
      have d26x : a1.tmps[26]?.getD undef = .int .u64 (ynew : Nat) := by rw [← d26]; simp
      simp [Region.wanted, Oper.wp, Act.eval, go_sem, d10, d10x, d14, d14x, d18, d18x, d22, d22x, d26, d26x, k0, k1, k3, m2, m4]
      exact hK _ _ (Below.refl _ _) rfl
      | 21, _ =>
      obtain rfl := Option.some.inj ho
      intro a1 w1 K hk hK
      have d27 : a1.tmps.getD 27 undef = .agg #[.slice Ax xp.length cx, .bool xhad, .bool yhas, .int .u64 (xold : Nat), .int .u64 (ynew : Nat)] := hk.deps ⟨20, .data⟩ (by simp) rfl _ _ rfl rfl
      simp [Region.wanted, Oper.wp, Act.eval, go_sem, d27, k0, k1, k3, m2, m4]
      refine (HO.out _ (HV.out.below (below_trans (by repeat (first | exact Below.refl _ _ | assumption | (refine Below.drew ?_) | (refine below_drewN' ?_ _) | (refine below_alloc' ?_ _))) hk.ext))).mono ?_
      rintro e w2 ⟨A9, n9, c9, rfl, hp9, hb9⟩
      exact hK _ _ hb9 ⟨A9, n9, c9, rfl, hp9⟩
      | 22, _ =>
      obtain rfl := Option.some.inj ho
      intro a1 w1 K hk hK
      have hsz := hk.ext.size
      simp [Region.wanted, Oper.wp, Act.eval, go_sem, k0, k1, k3, m2, m4]
      exact hK _ _ (by repeat (first | exact Below.refl _ _ | assumption | (refine Below.drew ?_) | (refine below_drewN' ?_ _) | (refine below_alloc' ?_ _))) ⟨w1.heap.size, rfl, by simp at hsz; omega, heap_alloc_new _ _⟩
      | k + 23, hk => exact absurd hk (by omega)
    · intro vs w3 hl hb3 hv
      match vs, hl with
      | [v0, v1, v2, v3, v4, v5, v6, v7, v8, v9, v10, v11, v12, v13, v14, v15, v16, v17, v18, v19, v20, v21, v22], _ =>
      obtain rfl : v0 = .pointer (some ⟨bx, ox, none⟩) := hv 0 (by omega)
      obtain rfl : v1 = .pointer (some ⟨bx, ox, none⟩) := hv 1 (by omega)
      obtain rfl : v2 = .pointer (some ⟨bx, ox, none⟩) := hv 2 (by omega)
      obtain rfl : v3 = .slice Ax xp.length cx := hv 3 (by omega)
      obtain rfl : v4 = .pointer (some ⟨bx, ox, none⟩) := hv 4 (by omega)
      obtain rfl : v5 = .pointer (some ⟨bx, ox, none⟩) := hv 5 (by omega)
      obtain rfl : v6 = .pointer (some ⟨bx, ox + 1, none⟩) := hv 6 (by omega)
      obtain rfl : v7 = .bool xhad := hv 7 (by omega)
      obtain rfl : v8 = .pointer (some ⟨by1, oy, none⟩) := hv 8 (by omega)
      obtain rfl : v9 = .pointer (some ⟨by1, oy, none⟩) := hv 9 (by omega)
      obtain rfl : v10 = .pointer (some ⟨by1, oy + 2, none⟩) := hv 10 (by omega)
      obtain rfl : v11 = .bool yhas := hv 11 (by omega)
      obtain rfl : v12 = .pointer (some ⟨bx, ox, none⟩) := hv 12 (by omega)
      obtain rfl : v13 = .pointer (some ⟨bx, ox, none⟩) := hv 13 (by omega)
      obtain rfl : v14 = .pointer (some ⟨bx, ox + 3, none⟩) := hv 14 (by omega)
      obtain rfl : v15 = .int .u64 (xold : Nat) := hv 15 (by omega)
      obtain rfl : v16 = .pointer (some ⟨by1, oy, none⟩) := hv 16 (by omega)
      obtain rfl : v17 = .pointer (some ⟨by1, oy, none⟩) := hv 17 (by omega)
      obtain rfl : v18 = .pointer (some ⟨by1, oy + 4, none⟩) := hv 18 (by omega)
      obtain rfl : v19 = .int .u64 (ynew : Nat) := hv 19 (by omega)
      obtain rfl : v20 = .agg #[.slice Ax xp.length cx, .bool xhad, .bool yhas, .int .u64 (xold : Nat), .int .u64 (ynew : Nat)] := hv 20 (by omega)
      have q21 : ∃ A9 n9 c9, v21 = .agg #[.slice A9 n9 c9, .bool xhad, .bool yhas, .int .u64 (xold : Nat), .int .u64 (ynew : Nat)] ∧ PtNew w3 (.slice A9 n9 c9) xp := hv 21 (by omega)
      have q22 : ∃ g, v22 = .pointer (some ⟨g, 0, none⟩) ∧ w.heap.size ≤ g ∧ w3.heap[g]? = some Zcells := hv 22 (by omega)
      clear hv
      obtain ⟨A9, n9, c9, rfl, hpt⟩ := q21
      obtain ⟨g, rfl, hgw, hgz⟩ := q22
      simp only [putAll, List.take_succ_cons, List.take_zero, List.drop_succ_cons, List.drop_zero, Act.put, List.setIfInBounds_toArray, List.set_cons_succ, List.set_cons_zero]
      have HX3 := Lib.hid (below_trans (drewN_below w _) hb3)
      have zc : (w3.cell? ⟨g, 0, none⟩ = some (.slice none 0 0) ∧ w3.cell? ⟨g, 1, none⟩ = some (.bool false) ∧ w3.cell? ⟨g, 2, none⟩ = some (.bool false) ∧ w3.cell? ⟨g, 3, none⟩ = some (.int .u64 0) ∧ w3.cell? ⟨g, 4, none⟩ = some (.int .u64 0)) := by
        unfold Zcells at hgz
        refine ⟨?_, ?_, ?_, ?_, ?_⟩ <;> simp [World.cell?, hgz]
      obtain ⟨z0, z1, z2, z3, z4⟩ := zc
      have zf : ∀ k, w3.frozen? ⟨g, k, none⟩ = false := by unfold Zcells at hgz; intro k; simp [World.frozen?, hgz]
      have HZ := Lib.hid (And.intro hgz (And.intro hgw hpt))
      clear hgz hgw hpt hb3 k0 k1 k3 m2 m4 kb k2 k4 m1 m3
      go_wp2_with fail
      have S := store5 HZ.out.1 (.slice A9 n9 c9) (.bool xhad) (.bool yhas) (.int .u64 (xold : Nat)) (.int .u64 (ynew : Nat))
      generalize (((((w3.setCell ⟨g, 0, none⟩ (.slice A9 n9 c9)).setCell ⟨g, 1, none⟩ (.bool xhad)).setCell ⟨g, 2, none⟩ (.bool yhas)).setCell ⟨g, 3, none⟩ (.int .u64 (xold : Nat))).setCell ⟨g, 4, none⟩ (.int .u64 (ynew : Nat))) = w4 at *
      obtain ⟨s1, s2, s3⟩ := S
      have HX4 := Lib.hid (HX3.out.trans (s3 _ HZ.out.2.1))
      have HP4 := Lib.hid (HZ.out.2.2.keepBlock (w' := w4) fun b cur fr hbk => s2 b (by
        intro e
        rw [e, HZ.out.1] at hbk
        unfold Zcells at hbk
        injection hbk with hbk
        injection hbk with _ hbk _
        exact absurd hbk (by decide)))
      have t0 : w4.cell? ⟨g, 0, none⟩ = some (.slice A9 n9 c9) := by simp [World.cell?, s1]
      have t1 : w4.cell? ⟨g, 1, none⟩ = some (.bool xhad) := by simp [World.cell?, s1]
      have t2 : w4.cell? ⟨g, 2, none⟩ = some (.bool yhas) := by simp [World.cell?, s1]
      have t3 : w4.cell? ⟨g, 3, none⟩ = some (.int .u64 (xold : Nat)) := by simp [World.cell?, s1]
      have t4 : w4.cell? ⟨g, 4, none⟩ = some (.int .u64 (ynew : Nat)) := by simp [World.cell?, s1]
      have tl : g < w4.heap.size := lt_of_block s1
      have tb : w4.cell? ⟨B, 0, none⟩ = some vo := cell_of_one ((HX4.out.block B hlB).trans HI.out.1)
      have tlB : B < w4.heap.size := Nat.lt_of_lt_of_le hlB HX4.out.size
      clear s1 s2 s3 z0 z1 z2 z3 z4 zf HX3 HZ
      refine (HRi.out _ _).mono ?_
      rintro e w5 ⟨rfl, rfl⟩
      cases rr with
      | true =>
        rw [if_pos rfl] at HCo
        go_wp2_with ((at_builtin; refine wpList_append_C (Pt := PtNew w4) rfl (.tmp 31) (.tmp 33) rfl W o ⟨xp, xhad, yhas, xold, ynew⟩ ?_ ?_ ?_ ?_ ?_ ?_))
        · exact fun u p h => h.rd.below (by repeat (first | exact Below.refl _ _ | assumption | (refine Below.drew ?_) | (refine below_drewN' ?_ _) | (refine below_alloc' ?_ _)))
        · exact ((HI.out.2.1.below HX4.out).mono fun u p h => h.below HX4.out).below (by repeat (first | exact Below.refl _ _ | assumption | (refine Below.drew ?_) | (refine below_drewN' ?_ _) | (refine below_alloc' ?_ _)))
        · exact ⟨_, _, _, rfl, by simp [go_sem], HP4.out, by simp [go_sem], by simp [go_sem], by simp [go_sem], by simp [go_sem]⟩
        · have := HX4.out.size; have := HI.out.2.2.1.size; simp; omega
        · have := HI.out.2.2.2.2; omega
        intro v6 w6 hown6 hg6
        obtain ⟨A6, n6, c6, rfl⟩ := hown6.shape
        obtain ⟨hb6, hI6⟩ := InvT.push HI.out.2.2.2.1 (vo := vo) (o := o) (o' := o ++ [⟨xp, xhad, yhas, xold, ynew⟩]) (by
          rw [Below.heap_alloc _ _ _ (by simp; omega), Below.heap_alloc _ _ _ tlB]
          exact (HX4.out.block B hlB).trans HI.out.1) ((((HI.out.2.1.below HX4.out).mono fun u p h => h.below HX4.out).below (by repeat (first | exact Below.refl _ _ | assumption | (refine Below.drew ?_) | (refine below_drewN' ?_ _) | (refine below_alloc' ?_ _)))).mono fun u p h => h.below (by repeat (first | exact Below.refl _ _ | assumption | (refine Below.drew ?_) | (refine below_drewN' ?_ _) | (refine below_alloc' ?_ _)))) ((HI.out.2.2.1.trans (HX4.out.mono HI.out.2.2.1.size)).trans ((show Below w4.heap.size w4 _ from (by repeat (first | exact Below.refl _ _ | assumption | (refine Below.drew ?_) | (refine below_drewN' ?_ _) | (refine below_alloc' ?_ _)))).mono (by have := HX4.out.size; have := HI.out.2.2.1.size; omega))) (hown6.mono fun u p h => h.below (by repeat (first | exact Below.refl _ _ | assumption | (refine Below.drew ?_) | (refine below_drewN' ?_ _) | (refine below_alloc' ?_ _)))) hg6
        have c6 := cell_of_one hb6
        have f6 := free_of_one hb6
        have HI6 := Lib.hid hI6
        clear hown6 hg6 hb6 hI6 t0 t1 t2 t3 t4 tl tb tlB
        go_wp2_with fail
        go_ret
        exact ⟨rfl, fun _ => by rw [HCo.out]; exact HI6.out, HI6.out.bel⟩
      | false =>
        rw [if_neg (by simp)] at HCo
        have HI6 := Lib.hid (show InvT W B o w4 from ⟨vo, (HX4.out.block B hlB).trans HI.out.1, (HI.out.2.1.below HX4.out).mono fun u p h => h.below HX4.out, HI.out.2.2.1.trans (HX4.out.mono HI.out.2.2.1.size)⟩)
        clear t0 t1 t2 t3 t4 tl tb
        go_wp2_with fail
        go_ret
        exact ⟨rfl, fun _ => by rw [HCo.out, List.append_nil]; exact HI6.out.below tlB (by repeat (first | exact Below.refl _ _ | assumption | (refine Below.drew ?_) | (refine below_drewN' ?_ _) | (refine below_alloc' ?_ _))), (HI6.out.below tlB (by repeat (first | exact Below.refl _ _ | assumption | (refine Below.drew ?_) | (refine below_drewN' ?_ _) | (refine below_alloc' ?_ _)))).bel⟩
end Go.Proofs.Ytlmgabhdeeehmaa
