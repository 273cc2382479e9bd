/-
  Texts that the proof of EditDiffs leans on, part 5: contracts of functions, and plain laws.
-/
import Derived.Test.YtjokcagggmjgmaaGreatMEditDiffs4
import Derived.ScopeJumps
import Derived.WalkMore
/-! ThenG -/
namespace Go.Proofs.YtjokcagggmjgmaaGreat
open Go.RowKit
set_option linter.unusedVariables false
set_option linter.unusedSimpArgs false

/-- what the closure says of a pair -/
def TellP (W : World) (B : Nat) (o : List Ch) (p : Option Ch × Option Ch) (e : Ending) (w' : World) : Prop :=
  e = .returned (.bool (fitC p)) ∧ (fitC p = true → InvT W B (o ++ (combC p).toList) w') ∧ Below W.heap.size W w'

theorem cells_setCell {w : World} {b k : Nat} {cur : Array Value} {u : Value} {t : TypeId} {fr : Nat × Nat} (h : w.heap[b]? = some (.cells cur t fr)) : (w.setCell ⟨b, k, none⟩ u).heap[b]? = some (.cells (cur.setIfInBounds k u) t fr) := by
  have hlt := lt_of_block h
  have h' : w.heap[b] = .cells cur t fr := by simpa [Array.getElem?_eq_getElem hlt] using h
  show (w.heap.modify b _)[b]? = _
  rw [Array.getElem?_eq_getElem (by simpa using hlt), Array.getElem_modify_self, h']
  rfl
theorem store5 {w3 : World} {g : Nat} (hg : w3.heap[g]? = some Zcells) (a b c d e : Value) :
    (((((w3.setCell ⟨g, 0, none⟩ a).setCell ⟨g, 1, none⟩ b).setCell ⟨g, 2, none⟩ c).setCell ⟨g, 3, none⟩ d).setCell ⟨g, 4, none⟩ e).heap[g]? = some (.cells #[a, b, c, d, e] 83 (0, 0)) ∧
    (∀ k, k ≠ g → (((((w3.setCell ⟨g, 0, none⟩ a).setCell ⟨g, 1, none⟩ b).setCell ⟨g, 2, none⟩ c).setCell ⟨g, 3, none⟩ d).setCell ⟨g, 4, none⟩ e).heap[k]? = w3.heap[k]?) ∧
    (∀ B, B ≤ g → Below B w3 (((((w3.setCell ⟨g, 0, none⟩ a).setCell ⟨g, 1, none⟩ b).setCell ⟨g, 2, none⟩ c).setCell ⟨g, 3, none⟩ d).setCell ⟨g, 4, none⟩ e)) := by
  refine ⟨?_, fun k hk => ?_, fun B hB => ?_⟩
  · have := cells_setCell (k := 4) (u := e) (cells_setCell (k := 3) (u := d) (cells_setCell (k := 2) (u := c) (cells_setCell (k := 1) (u := b) (cells_setCell (k := 0) (u := a) hg))))
    exact this
  · repeat rw [Below.heap_setCell _ _ _ _ hk]
  · exact (((((Below.refl B w3).setCell hB _).setCell hB _).setCell hB _).setCell hB _).setCell hB _

theorem InvT.bel {W w : World} {B : Nat} {o : List Ch} (h : InvT W B o w) : Below W.heap.size W w := let ⟨_, _, _, h⟩ := h; h
theorem InvT.below {W w w' : World} {B : Nat} {o : List Ch} (h : InvT W B o w) (hB : B < w.heap.size) (hb : Below w.heap.size w w') : InvT W B o w' :=
  let ⟨vo, h1, h2, h3⟩ := h
  ⟨vo, (hb.block B hB).trans h1, (h2.below hb).mono fun u p h => h.below hb, h3.trans (hb.mono h3.size)⟩
set_option maxRecDepth 8000 in
set_option maxHeartbeats 4000000 in
theorem tellXY (W w : World) (B : Nat) (o : List Ch) (x y : Ch) (px py : Value) (hW : W.heap.size ≤ B) (hi : InvT W B o w) (hx : PtrC w px (some x)) (hy : PtrC w py (some y)) (h1 : 1 ≤ x.p.length) (h40 : x.p.length ≤ 40) (hol : o.length ≤ 10000) :
    Calls Tryz.prog 90 #[px, py, .pointer (some ⟨B, 0, none⟩)] w fun e w' => TellP W B o (some x, some y) e w' := by
  obtain ⟨bx, ox, rfl, vx, k0, hv, k1, k2, k3, k4⟩ := hx
  obtain ⟨by1, oy, rfl, vy, m0, hvy, m1, m2, m3, m4⟩ := hy
  have HV := Lib.hid hv
  obtain ⟨Ax, cx, rfl, hx0⟩ := RdU.point hv
  clear hv hvy hx0 m0
  obtain ⟨vo, hblk, hown, hbW⟩ := hi
  have kb := cell_of_one hblk
  have HI := Lib.hid (And.intro hblk (And.intro hown (And.intro hbW (And.intro hW hol))))
  have hlB : B < w.heap.size := lt_of_block hblk
  have hlx : bx < w.heap.size := World.block_lt_of_cell? w _ k0
  have hly : by1 < w.heap.size := World.block_lt_of_cell? w _ m1
  clear hblk hown hbW hW hol
  obtain ⟨xp, xhad, xhas, xold, xnew⟩ := x
  obtain ⟨yp, yhad, yhas, yold, ynew⟩ := y
  simp only at k0 k1 k2 k3 k4 m1 m2 m3 m4 h1 h40
  have HO := Lib.hid (show ∀ w', RdU w' (.slice Ax xp.length cx) (pti xp) → Calls Tryz.prog 60 #[.agg #[.slice Ax xp.length cx, .bool xhad, .bool yhas, .int .u64 (xold : Nat), .int .u64 (ynew : Nat)]] w' fun e w'' => OwnP w' ⟨xp, xhad, yhas, xold, ynew⟩ e w'' from fun w' h => own_any ⟨xp, xhad, yhas, xold, ynew⟩ _ w' h h1 h40)
  have HRi := Lib.hid (fun (v : Value) (w : World) => right_any v ⟨xp, xhad, yhas, xold, ynew⟩ w)
  simp only at HRi HV
  clear h1 h40
  obtain ⟨b4, e4⟩ : ∃ b, ((xnew : Int) != (yold : Int)) = b := ⟨_, rfl⟩
  have he4 : decide ((xnew : Int) ≠ (yold : Int)) = b4 := by rw [← e4]; by_cases e : (xnew : Int) = yold <;> simp [e]
  have HF := Lib.hid (show fitC (some (⟨xp, xhad, xhas, xold, xnew⟩ : Ch), some (⟨yp, yhad, yhas, yold, ynew⟩ : Ch)) = !(xhas != yhad || b4) by unfold fitC; simp only; rw [he4])
  have HCo := Lib.hid (show (combC (some (⟨xp, xhad, xhas, xold, xnew⟩ : Ch), some (⟨yp, yhad, yhas, yold, ynew⟩ : Ch))).toList = if (⟨xp, xhad, yhas, xold, ynew⟩ : Ch).right then [⟨xp, xhad, yhas, xold, ynew⟩] else [] by
    show (if (joinC _ _).right = true then some (joinC _ _) else none).toList = _
    unfold joinC
    split <;> rfl)
  clear he4
  obtain ⟨rr, hrr⟩ : ∃ rr, (⟨xp, xhad, yhas, xold, ynew⟩ : Ch).right = rr := ⟨_, rfl⟩
  rw [hrr] at HRi HCo
  clear hrr
  unfold TellP
  rw [HF.out]
  generalize (combC (some (⟨xp, xhad, xhas, xold, xnew⟩ : Ch), some (⟨yp, yhad, yhas, yold, ynew⟩ : Ch))).toList = cl at *
  clear HF
  cases xhas <;> cases yhad <;> cases b4
  all_goals
    go_enter Tryz.func90, Tryz.ntmps90
    go_wp2_with fail
    go_quiet (fail)
    go_wp2_with fail
  all_goals first
    | (go_ret
       have hbW := HI.out.2.2.1
       exact ⟨rfl, fun h => absurd h (by decide), by repeat (first | exact hbW | (refine Below.drew ?_) | (refine (Below.trans (b := w) ?_ ((drewN_below w _).mono hbW.size))))⟩)
    | skip
  all_goals
    refine wp_region_vals 23 [fun v _ => v = .pointer (some ⟨bx, ox, none⟩),
      fun v _ => v = .pointer (some ⟨bx, ox, none⟩),
      fun v _ => v = .pointer (some ⟨bx, ox, none⟩),
      fun v _ => v = .slice Ax xp.length cx,
      fun v _ => v = .pointer (some ⟨bx, ox, none⟩),
      fun v _ => v = .pointer (some ⟨bx, ox, none⟩),
      fun v _ => v = .pointer (some ⟨bx, ox + 1, none⟩),
      fun v _ => v = .bool xhad,
      fun v _ => v = .pointer (some ⟨by1, oy, none⟩),
      fun v _ => v = .pointer (some ⟨by1, oy, none⟩),
      fun v _ => v = .pointer (some ⟨by1, oy + 2, none⟩),
      fun v _ => v = .bool yhas,
      fun v _ => v = .pointer (some ⟨bx, ox, none⟩),
      fun v _ => v = .pointer (some ⟨bx, ox, none⟩),
      fun v _ => v = .pointer (some ⟨bx, ox + 3, none⟩),
      fun v _ => v = .int .u64 (xold : Nat),
      fun v _ => v = .pointer (some ⟨by1, oy, none⟩),
      fun v _ => v = .pointer (some ⟨by1, oy, none⟩),
      fun v _ => v = .pointer (some ⟨by1, oy + 4, none⟩),
      fun v _ => v = .int .u64 (ynew : Nat),
      fun v _ => v = .agg #[.slice Ax xp.length cx, .bool xhad, .bool yhas, .int .u64 (xold : Nat), .int .u64 (ynew : Nat)],
      fun v9 w9 => ∃ A9 n9 c9, v9 = .agg #[.slice A9 n9 c9, .bool xhad, .bool yhas, .int .u64 (xold : Nat), .int .u64 (ynew : Nat)] ∧ PtNew w9 (.slice A9 n9 c9) xp,
      fun v9 w9 => ∃ g, v9 = .pointer (some ⟨g, 0, none⟩) ∧ w.heap.size ≤ g ∧ w9.heap[g]? = some Zcells]
      (by kernel_rfl) (by kernel_rfl) (by kernel_rfl) (by kernel_rfl) ?_ ?_ ?_
    · intro V hV v w1 w2 h hb
      simp only [List.mem_cons, List.not_mem_nil, or_false] at hV
      rcases hV with rfl | rfl | rfl | rfl | rfl | rfl | rfl | rfl | rfl | rfl | rfl | rfl | rfl | rfl | rfl | rfl | rfl | rfl | rfl | rfl | rfl | rfl | rfl
      all_goals first | exact h | (first | (obtain ⟨A9, n9, c9, h1, h2⟩ := h; exact ⟨A9, n9, c9, h1, h2.below hb⟩) | (obtain ⟨g, h1, h2, h3⟩ := h; exact ⟨g, h1, h2, (hb.block g (Array.getElem?_eq_some_iff.1 h3).1).trans h3⟩))
    · intro i o hi ho
      match i, hi with
      | 0, _ =>
      obtain rfl := Option.some.inj ho
      intro a1 w1 K hk hK
      have e0 : a1.tmps.getD 0 undef = .pointer (some ⟨bx, ox, none⟩) := hk.same 0 (by simp)
      simp [Region.wanted, Oper.wp, Act.eval, go_sem, e0, k0, k1, k3, m2, m4]
      exact hK _ _ (Below.refl _ _) rfl
      | 1, _ =>
      obtain rfl := Option.some.inj ho
      intro a1 w1 K hk hK
      have d7 : a1.tmps.getD 7 undef = .pointer (some ⟨bx, ox, none⟩) := hk.deps ⟨0, .data⟩ (by simp) rfl _ _ rfl rfl
      simp [Region.wanted, Oper.wp, Act.eval, go_sem, d7, k0, k1, k3, m2, m4]
      exact hK _ _ (Below.refl _ _) rfl
      | 2, _ =>
      obtain rfl := Option.some.inj ho
      intro a1 w1 K hk hK
      have d8 : a1.tmps.getD 8 undef = .pointer (some ⟨bx, ox, none⟩) := hk.deps ⟨1, .data⟩ (by simp) rfl _ _ rfl rfl
      simp [Region.wanted, Oper.wp, Act.eval, go_sem, d8, k0, k1, k3, m2, m4]
      exact hK _ _ (Below.refl _ _) rfl
      | 3, _ =>
      obtain rfl := Option.some.inj ho
      intro a1 w1 K hk hK
      have d9 : a1.tmps.getD 9 undef = .pointer (some ⟨bx, ox, none⟩) := hk.deps ⟨2, .data⟩ (by simp) rfl _ _ rfl rfl
      have c0 : w1.cell? ⟨bx, ox, none⟩ = some (.slice Ax xp.length cx) := Below.keeps hk.ext _ _ (by simp [go_sem, k0, k1, k3, m2, m4])
      have c1 : w1.cell? ⟨bx, ox + 1, none⟩ = some (.bool xhad) := Below.keeps hk.ext _ _ (by simp [go_sem, k0, k1, k3, m2, m4])
      have c2 : w1.cell? ⟨bx, ox + 3, none⟩ = some (.int .u64 (xold : Nat)) := Below.keeps hk.ext _ _ (by simp [go_sem, k0, k1, k3, m2, m4])
      have c3 : w1.cell? ⟨by1, oy + 2, none⟩ = some (.bool yhas) := Below.keeps hk.ext _ _ (by simp [go_sem, k0, k1, k3, m2, m4])
      have c4 : w1.cell? ⟨by1, oy + 4, none⟩ = some (.int .u64 (ynew : Nat)) := Below.keeps hk.ext _ _ (by simp [go_sem, k0, k1, k3, m2, m4])
      simp [Region.wanted, Oper.wp, Act.eval, go_sem, d9, c0, c1, c2, c3, c4, k0, k1, k3, m2, m4]
      exact hK _ _ (Below.refl _ _) rfl
      | 4, _ =>
      obtain rfl := Option.some.inj ho
      intro a1 w1 K hk hK
      have e0 : a1.tmps.getD 0 undef = .pointer (some ⟨bx, ox, none⟩) := hk.same 0 (by simp)
      simp [Region.wanted, Oper.wp, Act.eval, go_sem, e0, k0, k1, k3, m2, m4]
      exact hK _ _ (Below.refl _ _) rfl
      | 5, _ =>
      obtain rfl := Option.some.inj ho
      intro a1 w1 K hk hK
      have d11 : a1.tmps.getD 11 undef = .pointer (some ⟨bx, ox, none⟩) := hk.deps ⟨4, .data⟩ (by simp) rfl _ _ rfl rfl
      simp [Region.wanted, Oper.wp, Act.eval, go_sem, d11, k0, k1, k3, m2, m4]
      exact hK _ _ (Below.refl _ _) rfl
      | 6, _ =>
      obtain rfl := Option.some.inj ho
      intro a1 w1 K hk hK
      have d12 : a1.tmps.getD 12 undef = .pointer (some ⟨bx, ox, none⟩) := hk.deps ⟨5, .data⟩ (by simp) rfl _ _ rfl rfl
      simp [Region.wanted, Oper.wp, Act.eval, go_sem, d12, k0, k1, k3, m2, m4]
      exact hK _ _ (Below.refl _ _) rfl
      | 7, _ =>
      obtain rfl := Option.some.inj ho
      intro a1 w1 K hk hK
      have d13 : a1.tmps.getD 13 undef = .pointer (some ⟨bx, ox + 1, none⟩) := hk.deps ⟨6, .data⟩ (by simp) rfl _ _ rfl rfl
      have c0 : w1.cell? ⟨bx, ox, none⟩ = some (.slice Ax xp.length cx) := Below.keeps hk.ext _ _ (by simp [go_sem, k0, k1, k3, m2, m4])
      have c1 : w1.cell? ⟨bx, ox + 1, none⟩ = some (.bool xhad) := Below.keeps hk.ext _ _ (by simp [go_sem, k0, k1, k3, m2, m4])
      have c2 : w1.cell? ⟨bx, ox + 3, none⟩ = some (.int .u64 (xold : Nat)) := Below.keeps hk.ext _ _ (by simp [go_sem, k0, k1, k3, m2, m4])
      have c3 : w1.cell? ⟨by1, oy + 2, none⟩ = some (.bool yhas) := Below.keeps hk.ext _ _ (by simp [go_sem, k0, k1, k3, m2, m4])
      have c4 : w1.cell? ⟨by1, oy + 4, none⟩ = some (.int .u64 (ynew : Nat)) := Below.keeps hk.ext _ _ (by simp [go_sem, k0, k1, k3, m2, m4])
      simp [Region.wanted, Oper.wp, Act.eval, go_sem, d13, c0, c1, c2, c3, c4, k0, k1, k3, m2, m4]
      exact hK _ _ (Below.refl _ _) rfl
      | 8, _ =>
      obtain rfl := Option.some.inj ho
      intro a1 w1 K hk hK
      have e1 : a1.tmps.getD 1 undef = .pointer (some ⟨by1, oy, none⟩) := hk.same 1 (by simp)
      simp [Region.wanted, Oper.wp, Act.eval, go_sem, e1, k0, k1, k3, m2, m4]
      exact hK _ _ (Below.refl _ _) rfl
      | 9, _ =>
      obtain rfl := Option.some.inj ho
      intro a1 w1 K hk hK
      have d15 : a1.tmps.getD 15 undef = .pointer (some ⟨by1, oy, none⟩) := hk.deps ⟨8, .data⟩ (by simp) rfl _ _ rfl rfl
      simp [Region.wanted, Oper.wp, Act.eval, go_sem, d15, k0, k1, k3, m2, m4]
      exact hK _ _ (Below.refl _ _) rfl
      | 10, _ =>
      obtain rfl := Option.some.inj ho
      intro a1 w1 K hk hK
      have d16 : a1.tmps.getD 16 undef = .pointer (some ⟨by1, oy, none⟩) := hk.deps ⟨9, .data⟩ (by simp) rfl _ _ rfl rfl
      simp [Region.wanted, Oper.wp, Act.eval, go_sem, d16, k0, k1, k3, m2, m4]
      exact hK _ _ (Below.refl _ _) rfl
      | 11, _ =>
      obtain rfl := Option.some.inj ho
      intro a1 w1 K hk hK
      have d17 : a1.tmps.getD 17 undef = .pointer (some ⟨by1, oy + 2, none⟩) := hk.deps ⟨10, .data⟩ (by simp) rfl _ _ rfl rfl
      have c0 : w1.cell? ⟨bx, ox, none⟩ = some (.slice Ax xp.length cx) := Below.keeps hk.ext _ _ (by simp [go_sem, k0, k1, k3, m2, m4])
      have c1 : w1.cell? ⟨bx, ox + 1, none⟩ = some (.bool xhad) := Below.keeps hk.ext _ _ (by simp [go_sem, k0, k1, k3, m2, m4])
      have c2 : w1.cell? ⟨bx, ox + 3, none⟩ = some (.int .u64 (xold : Nat)) := Below.keeps hk.ext _ _ (by simp [go_sem, k0, k1, k3, m2, m4])
      have c3 : w1.cell? ⟨by1, oy + 2, none⟩ = some (.bool yhas) := Below.keeps hk.ext _ _ (by simp [go_sem, k0, k1, k3, m2, m4])
      have c4 : w1.cell? ⟨by1, oy + 4, none⟩ = some (.int .u64 (ynew : Nat)) := Below.keeps hk.ext _ _ (by simp [go_sem, k0, k1, k3, m2, m4])
      simp [Region.wanted, Oper.wp, Act.eval, go_sem, d17, c0, c1, c2, c3, c4, k0, k1, k3, m2, m4]
      exact hK _ _ (Below.refl _ _) rfl
      | 12, _ =>
      obtain rfl := Option.some.inj ho
      intro a1 w1 K hk hK
      have e0 : a1.tmps.getD 0 undef = .pointer (some ⟨bx, ox, none⟩) := hk.same 0 (by simp)
      simp [Region.wanted, Oper.wp, Act.eval, go_sem, e0, k0, k1, k3, m2, m4]
      exact hK _ _ (Below.refl _ _) rfl
      | 13, _ =>
      obtain rfl := Option.some.inj ho
      intro a1 w1 K hk hK
      have d19 : a1.tmps.getD 19 undef = .pointer (some ⟨bx, ox, none⟩) := hk.deps ⟨12, .data⟩ (by simp) rfl _ _ rfl rfl
      simp [Region.wanted, Oper.wp, Act.eval, go_sem, d19, k0, k1, k3, m2, m4]
      exact hK _ _ (Below.refl _ _) rfl
      | 14, _ =>
      obtain rfl := Option.some.inj ho
      intro a1 w1 K hk hK
      have d20 : a1.tmps.getD 20 undef = .pointer (some ⟨bx, ox, none⟩) := hk.deps ⟨13, .data⟩ (by simp) rfl _ _ rfl rfl
      simp [Region.wanted, Oper.wp, Act.eval, go_sem, d20, k0, k1, k3, m2, m4]
      exact hK _ _ (Below.refl _ _) rfl
      | 15, _ =>
      obtain rfl := Option.some.inj ho
      intro a1 w1 K hk hK
      have d21 : a1.tmps.getD 21 undef = .pointer (some ⟨bx, ox + 3, none⟩) := hk.deps ⟨14, .data⟩ (by simp) rfl _ _ rfl rfl
      have c0 : w1.cell? ⟨bx, ox, none⟩ = some (.slice Ax xp.length cx) := Below.keeps hk.ext _ _ (by simp [go_sem, k0, k1, k3, m2, m4])
      have c1 : w1.cell? ⟨bx, ox + 1, none⟩ = some (.bool xhad) := Below.keeps hk.ext _ _ (by simp [go_sem, k0, k1, k3, m2, m4])
      have c2 : w1.cell? ⟨bx, ox + 3, none⟩ = some (.int .u64 (xold : Nat)) := Below.keeps hk.ext _ _ (by simp [go_sem, k0, k1, k3, m2, m4])
      have c3 : w1.cell? ⟨by1, oy + 2, none⟩ = some (.bool yhas) := Below.keeps hk.ext _ _ (by simp [go_sem, k0, k1, k3, m2, m4])
      have c4 : w1.cell? ⟨by1, oy + 4, none⟩ = some (.int .u64 (ynew : Nat)) := Below.keeps hk.ext _ _ (by simp [go_sem, k0, k1, k3, m2, m4])
      simp [Region.wanted, Oper.wp, Act.eval, go_sem, d21, c0, c1, c2, c3, c4, k0, k1, k3, m2, m4]
      exact hK _ _ (Below.refl _ _) rfl
      | 16, _ =>
      obtain rfl := Option.some.inj ho
      intro a1 w1 K hk hK
      have e1 : a1.tmps.getD 1 undef = .pointer (some ⟨by1, oy, none⟩) := hk.same 1 (by simp)
      simp [Region.wanted, Oper.wp, Act.eval, go_sem, e1, k0, k1, k3, m2, m4]
      exact hK _ _ (Below.refl _ _) rfl
      | 17, _ =>
      obtain rfl := Option.some.inj ho
      intro a1 w1 K hk hK
      have d23 : a1.tmps.getD 23 undef = .pointer (some ⟨by1, oy, none⟩) := hk.deps ⟨16, .data⟩ (by simp) rfl _ _ rfl rfl
      simp [Region.wanted, Oper.wp, Act.eval, go_sem, d23, k0, k1, k3, m2, m4]
      exact hK _ _ (Below.refl _ _) rfl
      | 18, _ =>
      obtain rfl := Option.some.inj ho
      intro a1 w1 K hk hK
      have d24 : a1.tmps.getD 24 undef = .pointer (some ⟨by1, oy, none⟩) := hk.deps ⟨17, .data⟩ (by simp) rfl _ _ rfl rfl
      simp [Region.wanted, Oper.wp, Act.eval, go_sem, d24, k0, k1, k3, m2, m4]
      exact hK _ _ (Below.refl _ _) rfl
      | 19, _ =>
      obtain rfl := Option.some.inj ho
      intro a1 w1 K hk hK
      have d25 : a1.tmps.getD 25 undef = .pointer (some ⟨by1, oy + 4, none⟩) := hk.deps ⟨18, .data⟩ (by simp) rfl _ _ rfl rfl
      have c0 : w1.cell? ⟨bx, ox, none⟩ = some (.slice Ax xp.length cx) := Below.keeps hk.ext _ _ (by simp [go_sem, k0, k1, k3, m2, m4])
      have c1 : w1.cell? ⟨bx, ox + 1, none⟩ = some (.bool xhad) := Below.keeps hk.ext _ _ (by simp [go_sem, k0, k1, k3, m2, m4])
      have c2 : w1.cell? ⟨bx, ox + 3, none⟩ = some (.int .u64 (xold : Nat)) := Below.keeps hk.ext _ _ (by simp [go_sem, k0, k1, k3, m2, m4])
      have c3 : w1.cell? ⟨by1, oy + 2, none⟩ = some (.bool yhas) := Below.keeps hk.ext _ _ (by simp [go_sem, k0, k1, k3, m2, m4])
      have c4 : w1.cell? ⟨by1, oy + 4, none⟩ = some (.int .u64 (ynew : Nat)) := Below.keeps hk.ext _ _ (by simp [go_sem, k0, k1, k3, m2, m4])
      simp [Region.wanted, Oper.wp, Act.eval, go_sem, d25, c0, c1, c2, c3, c4, k0, k1, k3, m2, m4]
      exact hK _ _ (Below.refl _ _) rfl
      | 20, _ =>
      obtain rfl := Option.some.inj ho
      intro a1 w1 K hk hK
      have d10 : a1.tmps.getD 10 undef = .slice Ax xp.length cx := hk.deps ⟨3, .data⟩ (by simp) rfl _ _ rfl rfl
      have d10x : a1.tmps[10]?.getD undef = .slice Ax xp.length cx := by rw [← d10]; simp
      have d14 : a1.tmps.getD 14 undef = .bool xhad := hk.deps ⟨7, .data⟩ (by simp) rfl _ _ rfl rfl
      have d14x : a1.tmps[14]?.getD undef = .bool xhad := by rw [← d14]; simp
      have d18 : a1.tmps.getD 18 undef = .bool yhas := hk.deps ⟨11, .data⟩ (by simp) rfl _ _ rfl rfl
      have d18x : a1.tmps[18]?.getD undef = .bool yhas := by rw [← d18]; simp
      have d22 : a1.tmps.getD 22 undef = .int .u64 (xold : Nat) := hk.deps ⟨15, .data⟩ (by simp) rfl _ _ rfl rfl
      have d22x : a1.tmps[22]?.getD undef = .int .u64 (xold : Nat) := by rw [← d22]; simp
      have d26 : a1.tmps.getD 26 undef = .int .u64 (ynew : Nat) := hk.deps ⟨19, .data⟩ (by simp) rfl _ _ rfl rfl
      have d26x : a1.tmps[26]?.getD undef = .int .u64 (ynew : Nat) := by rw [← d26]; simp
      simp [Region.wanted, Oper.wp, Act.eval, go_sem, d10, d10x, d14, d14x, d18, d18x, d22, d22x, d26, d26x, k0, k1, k3, m2, m4]
      exact hK _ _ (Below.refl _ _) rfl
      | 21, _ =>
      obtain rfl := Option.some.inj ho
      intro a1 w1 K hk hK
      have d27 : a1.tmps.getD 27 undef = .agg #[.slice Ax xp.length cx, .bool xhad, .bool yhas, .int .u64 (xold : Nat), .int .u64 (ynew : Nat)] := hk.deps ⟨20, .data⟩ (by simp) rfl _ _ rfl rfl
      simp [Region.wanted, Oper.wp, Act.eval, go_sem, d27, k0, k1, k3, m2, m4]
      refine (HO.out _ (HV.out.below (below_trans (by repeat (first | exact Below.refl _ _ | assumption | (refine Below.drew ?_) | (refine below_drewN' ?_ _) | (refine below_alloc' ?_ _))) hk.ext))).mono ?_
      rintro e w2 ⟨A9, n9, c9, rfl, hp9, hb9⟩
      exact hK _ _ hb9 ⟨A9, n9, c9, rfl, hp9⟩
      | 22, _ =>
      obtain rfl := Option.some.inj ho
      intro a1 w1 K hk hK
      have hsz := hk.ext.size
      simp [Region.wanted, Oper.wp, Act.eval, go_sem, k0, k1, k3, m2, m4]
      exact hK _ _ (by repeat (first | exact Below.refl _ _ | assumption | (refine Below.drew ?_) | (refine below_drewN' ?_ _) | (refine below_alloc' ?_ _))) ⟨w1.heap.size, rfl, by simp at hsz; omega, heap_alloc_new _ _⟩
      | k + 23, hk => exact absurd hk (by omega)
    · intro vs w3 hl hb3 hv
      match vs, hl with
      | [v0, v1, v2, v3, v4, v5, v6, v7, v8, v9, v10, v11, v12, v13, v14, v15, v16, v17, v18, v19, v20, v21, v22], _ =>
      obtain rfl : v0 = .pointer (some ⟨bx, ox, none⟩) := hv 0 (by omega)
      obtain rfl : v1 = .pointer (some ⟨bx, ox, none⟩) := hv 1 (by omega)
      obtain rfl : v2 = .pointer (some ⟨bx, ox, none⟩) := hv 2 (by omega)
      obtain rfl : v3 = .slice Ax xp.length cx := hv 3 (by omega)
      obtain rfl : v4 = .pointer (some ⟨bx, ox, none⟩) := hv 4 (by omega)
      obtain rfl : v5 = .pointer (some ⟨bx, ox, none⟩) := hv 5 (by omega)
      obtain rfl : v6 = .pointer (some ⟨bx, ox + 1, none⟩) := hv 6 (by omega)
      obtain rfl : v7 = .bool xhad := hv 7 (by omega)
      obtain rfl : v8 = .pointer (some ⟨by1, oy, none⟩) := hv 8 (by omega)
      obtain rfl : v9 = .pointer (some ⟨by1, oy, none⟩) := hv 9 (by omega)
      obtain rfl : v10 = .pointer (some ⟨by1, oy + 2, none⟩) := hv 10 (by omega)
      obtain rfl : v11 = .bool yhas := hv 11 (by omega)
      obtain rfl : v12 = .pointer (some ⟨bx, ox, none⟩) := hv 12 (by omega)
      obtain rfl : v13 = .pointer (some ⟨bx, ox, none⟩) := hv 13 (by omega)
      obtain rfl : v14 = .pointer (some ⟨bx, ox + 3, none⟩) := hv 14 (by omega)
      obtain rfl : v15 = .int .u64 (xold : Nat) := hv 15 (by omega)
      obtain rfl : v16 = .pointer (some ⟨by1, oy, none⟩) := hv 16 (by omega)
      obtain rfl : v17 = .pointer (some ⟨by1, oy, none⟩) := hv 17 (by omega)
      obtain rfl : v18 = .pointer (some ⟨by1, oy + 4, none⟩) := hv 18 (by omega)
      obtain rfl : v19 = .int .u64 (ynew : Nat) := hv 19 (by omega)
      obtain rfl : v20 = .agg #[.slice Ax xp.length cx, .bool xhad, .bool yhas, .int .u64 (xold : Nat), .int .u64 (ynew : Nat)] := hv 20 (by omega)
      have q21 : ∃ A9 n9 c9, v21 = .agg #[.slice A9 n9 c9, .bool xhad, .bool yhas, .int .u64 (xold : Nat), .int .u64 (ynew : Nat)] ∧ PtNew w3 (.slice A9 n9 c9) xp := hv 21 (by omega)
      have q22 : ∃ g, v22 = .pointer (some ⟨g, 0, none⟩) ∧ w.heap.size ≤ g ∧ w3.heap[g]? = some Zcells := hv 22 (by omega)
      clear hv
      obtain ⟨A9, n9, c9, rfl, hpt⟩ := q21
      obtain ⟨g, rfl, hgw, hgz⟩ := q22
      simp only [putAll, List.take_succ_cons, List.take_zero, List.drop_succ_cons, List.drop_zero, Act.put, List.setIfInBounds_toArray, List.set_cons_succ, List.set_cons_zero]
      have HX3 := Lib.hid (below_trans (drewN_below w _) hb3)
      have zc : (w3.cell? ⟨g, 0, none⟩ = some (.slice none 0 0) ∧ w3.cell? ⟨g, 1, none⟩ = some (.bool false) ∧ w3.cell? ⟨g, 2, none⟩ = some (.bool false) ∧ w3.cell? ⟨g, 3, none⟩ = some (.int .u64 0) ∧ w3.cell? ⟨g, 4, none⟩ = some (.int .u64 0)) := by
        unfold Zcells at hgz
        refine ⟨?_, ?_, ?_, ?_, ?_⟩ <;> simp [World.cell?, hgz]
      obtain ⟨z0, z1, z2, z3, z4⟩ := zc
      have zf : ∀ k, w3.frozen? ⟨g, k, none⟩ = false := by unfold Zcells at hgz; intro k; simp [World.frozen?, hgz]
      have HZ := Lib.hid (And.intro hgz (And.intro hgw hpt))
      clear hgz hgw hpt hb3 k0 k1 k3 m2 m4 kb k2 k4 m1 m3
      go_wp2_with fail
      have S := store5 HZ.out.1 (.slice A9 n9 c9) (.bool xhad) (.bool yhas) (.int .u64 (xold : Nat)) (.int .u64 (ynew : Nat))
      generalize (((((w3.setCell ⟨g, 0, none⟩ (.slice A9 n9 c9)).setCell ⟨g, 1, none⟩ (.bool xhad)).setCell ⟨g, 2, none⟩ (.bool yhas)).setCell ⟨g, 3, none⟩ (.int .u64 (xold : Nat))).setCell ⟨g, 4, none⟩ (.int .u64 (ynew : Nat))) = w4 at *
      obtain ⟨s1, s2, s3⟩ := S
      have HX4 := Lib.hid (HX3.out.trans (s3 _ HZ.out.2.1))
      have HP4 := Lib.hid (HZ.out.2.2.keepBlock (w' := w4) fun b cur fr hbk => s2 b (by
        intro e
        rw [e, HZ.out.1] at hbk
        unfold Zcells at hbk
        injection hbk with hbk
        injection hbk with _ hbk _
        exact absurd hbk (by decide)))
      have t0 : w4.cell? ⟨g, 0, none⟩ = some (.slice A9 n9 c9) := by simp [World.cell?, s1]
      have t1 : w4.cell? ⟨g, 1, none⟩ = some (.bool xhad) := by simp [World.cell?, s1]
      have t2 : w4.cell? ⟨g, 2, none⟩ = some (.bool yhas) := by simp [World.cell?, s1]
      have t3 : w4.cell? ⟨g, 3, none⟩ = some (.int .u64 (xold : Nat)) := by simp [World.cell?, s1]
      have t4 : w4.cell? ⟨g, 4, none⟩ = some (.int .u64 (ynew : Nat)) := by simp [World.cell?, s1]
      have tl : g < w4.heap.size := lt_of_block s1
      have tb : w4.cell? ⟨B, 0, none⟩ = some vo := cell_of_one ((HX4.out.block B hlB).trans HI.out.1)
      have tlB : B < w4.heap.size := Nat.lt_of_lt_of_le hlB HX4.out.size
      clear s1 s2 s3 z0 z1 z2 z3 z4 zf HX3 HZ
      refine (HRi.out _ _).mono ?_
      rintro e w5 ⟨rfl, rfl⟩
      cases rr with
      | true =>
        rw [if_pos rfl] at HCo
        go_wp2_with ((at_builtin; refine wpList_append_C (Pt := PtNew w4) rfl (.tmp 31) (.tmp 33) rfl W o ⟨xp, xhad, yhas, xold, ynew⟩ ?_ ?_ ?_ ?_ ?_ ?_))
        · exact fun u p h => h.rd.below (by repeat (first | exact Below.refl _ _ | assumption | (refine Below.drew ?_) | (refine below_drewN' ?_ _) | (refine below_alloc' ?_ _)))
        · exact ((HI.out.2.1.below HX4.out).mono fun u p h => h.below HX4.out).below (by repeat (first | exact Below.refl _ _ | assumption | (refine Below.drew ?_) | (refine below_drewN' ?_ _) | (refine below_alloc' ?_ _)))
        · exact ⟨_, _, _, rfl, by simp [go_sem], HP4.out, by simp [go_sem], by simp [go_sem], by simp [go_sem], by simp [go_sem]⟩
        · have := HX4.out.size; have := HI.out.2.2.1.size; simp; omega
        · have := HI.out.2.2.2.2; omega
        intro v6 w6 hown6 hg6
        obtain ⟨A6, n6, c6, rfl⟩ := hown6.shape
        obtain ⟨hb6, hI6⟩ := InvT.push HI.out.2.2.2.1 (vo := vo) (o := o) (o' := o ++ [⟨xp, xhad, yhas, xold, ynew⟩]) (by
          rw [Below.heap_alloc _ _ _ (by simp; omega), Below.heap_alloc _ _ _ tlB]
          exact (HX4.out.block B hlB).trans HI.out.1) ((((HI.out.2.1.below HX4.out).mono fun u p h => h.below HX4.out).below (by repeat (first | exact Below.refl _ _ | assumption | (refine Below.drew ?_) | (refine below_drewN' ?_ _) | (refine below_alloc' ?_ _)))).mono fun u p h => h.below (by repeat (first | exact Below.refl _ _ | assumption | (refine Below.drew ?_) | (refine below_drewN' ?_ _) | (refine below_alloc' ?_ _)))) ((HI.out.2.2.1.trans (HX4.out.mono HI.out.2.2.1.size)).trans ((show Below w4.heap.size w4 _ from (by repeat (first | exact Below.refl _ _ | assumption | (refine Below.drew ?_) | (refine below_drewN' ?_ _) | (refine below_alloc' ?_ _)))).mono (by have := HX4.out.size; have := HI.out.2.2.1.size; omega))) (hown6.mono fun u p h => h.below (by repeat (first | exact Below.refl _ _ | assumption | (refine Below.drew ?_) | (refine below_drewN' ?_ _) | (refine below_alloc' ?_ _)))) hg6
        have c6 := cell_of_one hb6
        have f6 := free_of_one hb6
        have HI6 := Lib.hid hI6
        clear hown6 hg6 hb6 hI6 t0 t1 t2 t3 t4 tl tb tlB
        go_wp2_with fail
        go_ret
        exact ⟨rfl, fun _ => by rw [HCo.out]; exact HI6.out, HI6.out.bel⟩
      | false =>
        rw [if_neg (by simp)] at HCo
        have HI6 := Lib.hid (show InvT W B o w4 from ⟨vo, (HX4.out.block B hlB).trans HI.out.1, (HI.out.2.1.below HX4.out).mono fun u p h => h.below HX4.out, HI.out.2.2.1.trans (HX4.out.mono HI.out.2.2.1.size)⟩)
        clear t0 t1 t2 t3 t4 tl tb
        go_wp2_with fail
        go_ret
        exact ⟨rfl, fun _ => by rw [HCo.out, List.append_nil]; exact HI6.out.below tlB (by repeat (first | exact Below.refl _ _ | assumption | (refine Below.drew ?_) | (refine below_drewN' ?_ _) | (refine below_alloc' ?_ _))), (HI6.out.below tlB (by repeat (first | exact Below.refl _ _ | assumption | (refine Below.drew ?_) | (refine below_drewN' ?_ _) | (refine below_alloc' ?_ _)))).bel⟩
end Go.Proofs.YtjokcagggmjgmaaGreat
/-! Pairs -/
namespace Go.Proofs.YtjokcagggmjgmaaGreat
open Go.RowKit
set_option linter.unusedVariables false
set_option linter.unusedSimpArgs false

theorem Bdrew {W w : World} (h : Below W.heap.size W w) (n : Nat) : Below W.heap.size W (w.drewN n) := h.trans ((drewN_below w n).mono h.size)
theorem enters_func {P : Program} {f : FuncId} {fn : Func} (hf : P.funcs[f]? = some fn) (hname : (fn.name == "runtime.NumGoroutine") = false) (hb : fn.body.isSome = true) (args : Array Value) (w : World) :
    (callFunc f args).run P w = .ok (.enter f args) w := by
  have h1 : fn.name ≠ "runtime.NumGoroutine" := by simpa using hname
  obtain ⟨c, hc⟩ := Option.isSome_iff_exists.1 hb
  simp [callFunc, hf, h1, hc]
def lenOf : Value → Nat | .slice _ n _ => n | _ => 0

/-- the list without its first -/
theorem tailC {W : World} {b o c : Nat} {x : Ch} {l : List Ch} (h : RdC W (.slice (some ⟨b, o, none⟩) (l.length + 1) c) (x :: l) ∧ CapOk (.slice (some ⟨b, o, none⟩) (l.length + 1) c)) (hc : CapOk (.slice (some ⟨b, o, none⟩) (l.length + 1) c)) :
    RdC W (.slice (if c = 1 then some (⟨b, o, none⟩ : Addr) else some ⟨b, o + 5, none⟩) l.length (c - 1)) l ∧ CapOk (.slice (if c = 1 then some (⟨b, o, none⟩ : Addr) else some ⟨b, o + 5, none⟩) l.length (c - 1)) := by
  obtain ⟨A9, n9, c9, e9, h9, h10, h11⟩ := hc
  injection e9 with e1 e2 e3
  subst e1 e2 e3
  obtain ⟨⟨A, c', e, hx⟩, _⟩ := h
  injection e with e1 e2 e3
  subst e1 e3
  obtain ⟨b', o', ha, hch⟩ := hx (by simp)
  injection ha with ha
  injection ha with ha1 ha2
  subst ha1 ha2
  refine ⟨⟨_, _, rfl, fun hp => ⟨b, o + 5, by rw [if_neg (by omega)], fun j hj => ?_⟩⟩, _, _, _, rfl, by omega, by omega, fun h => ?_⟩
  · have := hch (j + 1) (by simpa using hj)
    rw [show o + 5 + j * 5 = o + (j + 1) * 5 by omega]
    simpa using this
  · split
    · exact ⟨_, _, rfl⟩
    · exact ⟨_, _, rfl⟩

/-- at the label: so much is done -/
structure PairsAt (W : World) (T : Option Ch × Option Ch → Bool) (Inv : List (Option Ch × Option Ch) → World → Prop) (a b : List Ch) (wa wb : Value) (n : Nat) (la lb : List Ch) (d : List (Option Ch × Option Ch)) (w' : World) : Prop where
  ra : RdC W wa la ∧ CapOk wa
  rb : RdC W wb lb ∧ CapOk wb
  le : la.length + lb.length ≤ n
  eq' : pairs a b = d ++ pairsL n la lb
  all : d.all T = true
  inv : Inv d w'
  bel : Below W.heap.size W w'
  sa : ∀ x ∈ la, x ∈ a
  sb : ∀ y ∈ lb, y ∈ b
  len : d.length + (la.length + lb.length) ≤ a.length + b.length

section
variable {W w' : World} {T : Option Ch × Option Ch → Bool} {Inv : List (Option Ch × Option Ch) → World → Prop} {a b ta tb : List Ch} {x y : Ch} {wa wb : Value} {n : Nat} {d : List (Option Ch × Option Ch)}
theorem PairsAt.done (h : PairsAt W T Inv a b wa wb n [] [] d w') : pairs a b = d := by
  have := h.eq'
  cases n <;> simpa [pairsL] using this
theorem PairsAt.onlyA (h : PairsAt W T Inv a b wa wb n (x :: ta) [] d w') : ∃ m, ta.length + 0 ≤ m ∧ pairs a b = d ++ (some x, none) :: pairsL m ta [] := by
  have := h.eq'
  have hle := h.le
  cases n with
  | zero => simp at hle
  | succ m => exact ⟨m, by simp at hle; omega, this⟩
theorem PairsAt.onlyB (h : PairsAt W T Inv a b wa wb n [] (y :: tb) d w') : ∃ m, 0 + tb.length ≤ m ∧ pairs a b = d ++ (none, some y) :: pairsL m [] tb := by
  have := h.eq'
  have hle := h.le
  cases n with
  | zero => simp at hle
  | succ m => exact ⟨m, by simp at hle; omega, this⟩
theorem PairsAt.lt (h : PairsAt W T Inv a b wa wb n (x :: ta) (y :: tb) d w') (hz : Zb.cmp x.p y.p < 0) : ∃ m, ta.length + (tb.length + 1) ≤ m ∧ pairs a b = d ++ (some x, none) :: pairsL m ta (y :: tb) := by
  have := h.eq'
  have hle := h.le
  cases n with
  | zero => simp at hle
  | succ m => exact ⟨m, by simp at hle; omega, by rw [this, pairsL, if_pos hz]⟩
theorem PairsAt.gt (h : PairsAt W T Inv a b wa wb n (x :: ta) (y :: tb) d w') (hz : ¬ Zb.cmp x.p y.p < 0) (hz2 : 0 < Zb.cmp x.p y.p) : ∃ m, ta.length + 1 + tb.length ≤ m ∧ pairs a b = d ++ (none, some y) :: pairsL m (x :: ta) tb := by
  have := h.eq'
  have hle := h.le
  cases n with
  | zero => simp at hle
  | succ m => exact ⟨m, by simp at hle; omega, by rw [this, pairsL, if_neg hz, if_pos hz2]⟩
theorem PairsAt.eq (h : PairsAt W T Inv a b wa wb n (x :: ta) (y :: tb) d w') (hz : ¬ Zb.cmp x.p y.p < 0) (hz2 : ¬ 0 < Zb.cmp x.p y.p) : ∃ m, ta.length + tb.length ≤ m ∧ pairs a b = d ++ (some x, some y) :: pairsL m ta tb := by
  have := h.eq'
  have hle := h.le
  cases n with
  | zero => simp at hle
  | succ m => exact ⟨m, by simp at hle; omega, by rw [this, pairsL, if_neg hz, if_neg hz2]⟩
end
/-- what pairs hands back -/
def PairsP (W : World) (T : Option Ch × Option Ch → Bool) (Inv : List (Option Ch × Option Ch) → World → Prop) (a b : List Ch) (e : Ending) (w' : World) : Prop :=
  e = .returned (.bool ((pairs a b).all T)) ∧ ((pairs a b).all T = true → Inv (pairs a b) w') ∧ Below W.heap.size W w'

set_option maxRecDepth 100000 in
set_option maxHeartbeats 4000000 in
theorem pairs_any (W w : World) (f : FuncId) (cap : Array Value) (T : Option Ch × Option Ch → Bool) (Inv : List (Option Ch × Option Ch) → World → Prop) (a b : List Ch) (va vb : Value) (k : Nat)
    (ra : Rt k a) (rb : Rt k b) (hk : 1 ≤ k ∧ k ≤ 16) (hn : a.length + b.length ≤ 1000) (HE : ∀ args w, (callFunc f args).run Tryz.prog w = .ok (.enter f args) w)
    (HT0 : ∀ d p px py w', Inv d w' → Below W.heap.size W w' → PtrC w' px p.1 → PtrC w' py p.2 → (∀ x, p.1 = some x → x ∈ a) → (∀ y, p.2 = some y → y ∈ b) → d.length ≤ 1000 → p ≠ (none, none) →
      Calls Tryz.prog f (#[px, py] ++ cap) w' fun e w'' => e = .returned (.bool (T p)) ∧ (T p = true → Inv (d ++ [p]) w'') ∧ Below W.heap.size W w'')
    (HD0 : ∀ d w n, Inv d w → Inv d (w.drewN n)) (hInv : Inv [] w) (hbW : Below W.heap.size W w) (hra : RdC W va a ∧ CapOk va) (hrb : RdC W vb b ∧ CapOk vb) :
    Calls Tryz.prog 89 #[va, vb, .func (.func f) #[] cap] w fun e w' => PairsP W T Inv a b e w' := by
  have H0 := Lib.hid (show PairsAt W T Inv a b va vb (a.length + b.length) a b [] w from ⟨hra, hrb, Nat.le_refl _, rfl, rfl, hInv, hbW, fun _ h => h, fun _ h => h, by simp⟩)
  have HT := Lib.hid HT0
  have HDr := Lib.hid HD0
  have RA := Lib.hid ra
  have RB := Lib.hid rb
  have HK := Lib.hid (And.intro hk.1 (And.intro hk.2 hn))
  clear HT0 HD0 ra rb hk hn hInv hbW hra hrb
  go_enter Tryz.func89, Tryz.ntmps89
  go_wp2_with fail
  refine wp_scope_jumps2 0 (fun a' w' => ∃ (wa wb : Value) (n : Nat) (la lb : List Ch) (d : List (Option Ch × Option Ch)) (u7 u8 u9 u10 u11 u12 u13 u14 u15 u16 u17 u18 u19 u20 u21 u22 u23 u24 u25 u26 u27 u28 u29 u30 u31 u32 u33 u34 u35 u36 u37 u38 u39 u40 u41 u42 u43 u44 u45 u46 u47 u48 u49 u50 u51 u52 u53 u54 : Value), a' = { tmps := #[wa, wb, .func (.func f) #[] cap, undef, undef, undef, .bool false, u7, u8, u9, u10, u11, u12, u13, u14, u15, u16, u17, u18, u19, u20, u21, u22, u23, u24, u25, u26, u27, u28, u29, u30, u31, u32, u33, u34, u35, u36, u37, u38, u39, u40, u41, u42, u43, u44, u45, u46, u47, u48, u49, u50, u51, u52, u53, u54], defers := [] } ∧ PairsAt W T Inv a b wa wb n la lb d w') (fun a' _ => lenOf (a'.tmps.getD 0 undef) + lenOf (a'.tmps.getD 1 undef)) rfl ?_ ?_
  · rintro a' w' ⟨wa, wb, n, la, lb, d, u7, u8, u9, u10, u11, u12, u13, u14, u15, u16, u17, u18, u19, u20, u21, u22, u23, u24, u25, u26, u27, u28, u29, u30, u31, u32, u33, u34, u35, u36, u37, u38, u39, u40, u41, u42, u43, u44, u45, u46, u47, u48, u49, u50, u51, u52, u53, u54, rfl, hP⟩
    cases la with
    | nil =>
      cases lb with
      | nil =>
        have HP := Lib.hid hP
        obtain ⟨⟨Aa, ca, rfl, _⟩, _⟩ := hP.ra
        obtain ⟨⟨Ab, cb, rfl, _⟩, _⟩ := hP.rb
        clear hP
        go_wp2_with fail
        simp only [Exit.jump]
        go_ret
        have e := HP.out.done
        unfold PairsP
        rw [e]
        exact ⟨by rw [HP.out.all] <;> rfl, fun _ => HP.out.inv, HP.out.bel⟩
      | cons y tb =>
        have HP := Lib.hid hP
        obtain ⟨⟨Aa, ca, ea, ga⟩, hca⟩ := hP.ra
        obtain ⟨⟨Ab, cb, eb, gb⟩, hcb⟩ := hP.rb
        subst ea eb
        simp only [List.length_cons, List.length_nil] at *
        obtain ⟨bb, ob, rfl, hb⟩ := gb (by omega)
        have hbt := hb 0 (by simp)
        simp only [Nat.zero_mul, Nat.add_zero, List.getElem_cons_zero] at hbt
        have hbtw := hbt.keep (Below.keeps hP.bel)
        obtain ⟨w0, m0, hw0, _⟩ := hbtw
        have hlb : bb < w'.heap.size := World.block_lt_of_cell? w' _ m0
        have HBt := Lib.hid hbt
        have h1b : 1 ≤ cb := by obtain ⟨A9, n9, c9, e9, h9, _⟩ := hcb; injection e9 with _ e1 e2; omega
        obtain ⟨Ay, hAy⟩ : ∃ Ay, (if cb = 1 then some (⟨bb, ob, none⟩ : Addr) else some ⟨bb, ob + 5, none⟩) = Ay := ⟨_, rfl⟩
        have HRB := Lib.hid (show RdC W (.slice Ay tb.length (cb - 1)) tb ∧ CapOk (.slice Ay tb.length (cb - 1)) from hAy ▸ tailC HP.out.rb hcb)
        obtain ⟨m, hm, hpe⟩ := HP.out.onlyB
        have HS := Lib.hid (And.intro hm hpe)
        have HTell := Lib.hid (fun (w'' : World) (hi : Inv d w'') (hbe : Below W.heap.size W w'') => HT.out d (none, some y) (.pointer none) (.pointer (some ⟨bb, ob, none⟩)) w'' hi hbe rfl (HBt.out.keep (Below.keeps hbe) |> fun h => ⟨_, _, rfl, h⟩) (fun z hz => by cases hz) (fun z hz => by injection hz with hz; subst hz; exact HP.out.sb _ (List.mem_cons_self ..)) (by have := HP.out.len; have := HK.out.2.2; simp at *; omega) (by simp))
        have sb1 : ((tb.length : Int) + 1 == 0) = false := by simp; omega
        have sb2 : (0 : Int) < (tb.length : Int) + 1 := by omega
        have sb3 : (1 : Int) ≤ (tb.length : Int) + 1 := by omega
        clear hP hca hcb hm hpe ga gb hb hbt hw0
        go_wp2_with fail
        go_quiet (fail)
        go_wp2_with fail
        have hbe := HP.out.bel
        refine (HTell.out _ (HDr.out _ _ _ HP.out.inv) (Bdrew hbe _)).mono ?_
        rintro e w5 ⟨rfl, hI5, hb5⟩
        have HI5 := Lib.hid (And.intro hI5 hb5)
        clear hI5 hb5 hbe
        generalize hT : T (none, some y) = t at *
        have HTt := Lib.hid hT
        clear hT
        cases t with
        | false =>
          go_wp2_with fail
          simp only [Exit.jump]
          go_ret
          have e : (pairs a b).all T = false := by rw [HS.out.2, List.all_append, List.all_cons, HTt.out]; simp
          exact ⟨by rw [e] <;> rfl, (fun h => by rw [e] at h; cases h), HI5.out.2⟩
        | true =>
          go_wp2_with fail
          go_step3
          refine ⟨rfl, ⟨_, _, m, [], tb, d ++ [(none, some y)], _, _, _, _, _, _, _, _, _, _, _, _, _, _, _, _, _, _, _, _, _, _, _, _, _, _, _, _, _, _, _, _, _, _, _, _, _, _, _, _, _, _, _, _, _, _, _, _, rfl, ⟨HP.out.ra, HRB.out, by (try simp only [List.length_cons, List.length_nil]); have := HS.out.1; omega, by rw [HS.out.2, List.append_assoc]; rfl, by rw [List.all_append, HP.out.all, List.all_cons, HTt.out]; rfl, HI5.out.1 (by first | rfl | trivial), HI5.out.2, fun z hz => HP.out.sa z (hz), fun z hz => HP.out.sb z (List.mem_cons_of_mem _ hz), by have := HP.out.len; (try simp only [List.length_cons, List.length_nil, List.length_append] at *); omega⟩⟩, ?_⟩
          simp [lenOf] <;> omega
    | cons x ta =>
      cases lb with
      | nil =>
        have HP := Lib.hid hP
        obtain ⟨⟨Aa, ca, ea, ga⟩, hca⟩ := hP.ra
        obtain ⟨⟨Ab, cb, eb, gb⟩, hcb⟩ := hP.rb
        subst ea eb
        simp only [List.length_cons, List.length_nil] at *
        obtain ⟨ba, oa, rfl, ha⟩ := ga (by omega)
        have hat := ha 0 (by simp)
        simp only [Nat.zero_mul, Nat.add_zero, List.getElem_cons_zero] at hat
        have hatw := hat.keep (Below.keeps hP.bel)
        obtain ⟨v0, k0, hv0, _⟩ := hatw
        have hla : ba < w'.heap.size := World.block_lt_of_cell? w' _ k0
        have HA := Lib.hid hat
        have h1a : 1 ≤ ca := by obtain ⟨A9, n9, c9, e9, h9, _⟩ := hca; injection e9 with _ e1 e2; omega
        obtain ⟨Ax, hAx⟩ : ∃ Ax, (if ca = 1 then some (⟨ba, oa, none⟩ : Addr) else some ⟨ba, oa + 5, none⟩) = Ax := ⟨_, rfl⟩
        have HRA := Lib.hid (show RdC W (.slice Ax ta.length (ca - 1)) ta ∧ CapOk (.slice Ax ta.length (ca - 1)) from hAx ▸ tailC HP.out.ra hca)
        obtain ⟨m, hm, hpe⟩ := HP.out.onlyA
        have HS := Lib.hid (And.intro hm hpe)
        have HTell := Lib.hid (fun (w'' : World) (hi : Inv d w'') (hbe : Below W.heap.size W w'') => HT.out d (some x, none) (.pointer (some ⟨ba, oa, none⟩)) (.pointer none) w'' hi hbe (HA.out.keep (Below.keeps hbe) |> fun h => ⟨_, _, rfl, h⟩) rfl (fun z hz => by injection hz with hz; subst hz; exact HP.out.sa _ (List.mem_cons_self ..)) (fun z hz => by cases hz) (by have := HP.out.len; have := HK.out.2.2; simp at *; omega) (by simp))
        have sa1 : ((ta.length : Int) + 1 == 0) = false := by simp; omega
        have sa2 : (0 : Int) < (ta.length : Int) + 1 := by omega
        have sa3 : (1 : Int) ≤ (ta.length : Int) + 1 := by omega
        clear hP hca hcb hm hpe ga gb ha hat hv0
        go_wp2_with fail
        go_quiet (fail)
        go_wp2_with fail
        have hbe := HP.out.bel
        refine (HTell.out _ (HDr.out _ _ _ HP.out.inv) (Bdrew hbe _)).mono ?_
        rintro e w5 ⟨rfl, hI5, hb5⟩
        have HI5 := Lib.hid (And.intro hI5 hb5)
        clear hI5 hb5 hbe
        generalize hT : T (some x, none) = t at *
        have HTt := Lib.hid hT
        clear hT
        cases t with
        | false =>
          go_wp2_with fail
          simp only [Exit.jump]
          go_ret
          have e : (pairs a b).all T = false := by rw [HS.out.2, List.all_append, List.all_cons, HTt.out]; simp
          exact ⟨by rw [e] <;> rfl, (fun h => by rw [e] at h; cases h), HI5.out.2⟩
        | true =>
          go_wp2_with fail
          go_step3
          refine ⟨rfl, ⟨_, _, m, ta, [], d ++ [(some x, none)], _, _, _, _, _, _, _, _, _, _, _, _, _, _, _, _, _, _, _, _, _, _, _, _, _, _, _, _, _, _, _, _, _, _, _, _, _, _, _, _, _, _, _, _, _, _, _, _, rfl, ⟨HRA.out, HP.out.rb, by (try simp only [List.length_cons, List.length_nil]); have := HS.out.1; omega, by rw [HS.out.2, List.append_assoc]; rfl, by rw [List.all_append, HP.out.all, List.all_cons, HTt.out]; rfl, HI5.out.1 (by first | rfl | trivial), HI5.out.2, fun z hz => HP.out.sa z (List.mem_cons_of_mem _ hz), fun z hz => HP.out.sb z (hz), by have := HP.out.len; (try simp only [List.length_cons, List.length_nil, List.length_append] at *); omega⟩⟩, ?_⟩
          simp [lenOf] <;> omega
      | cons y tb =>
        by_cases hz : Zb.cmp x.p y.p < 0
        · skip
          have HP := Lib.hid hP
          obtain ⟨⟨Aa, ca, ea, ga⟩, hca⟩ := hP.ra
          obtain ⟨⟨Ab, cb, eb, gb⟩, hcb⟩ := hP.rb
          subst ea eb
          simp only [List.length_cons, List.length_nil] at *
          obtain ⟨ba, oa, rfl, ha⟩ := ga (by omega)
          have hat := ha 0 (by simp)
          simp only [Nat.zero_mul, Nat.add_zero, List.getElem_cons_zero] at hat
          have hatw := hat.keep (Below.keeps hP.bel)
          obtain ⟨v0, k0, hv0, _⟩ := hatw
          have hla : ba < w'.heap.size := World.block_lt_of_cell? w' _ k0
          have HA := Lib.hid hat
          have h1a : 1 ≤ ca := by obtain ⟨A9, n9, c9, e9, h9, _⟩ := hca; injection e9 with _ e1 e2; omega
          obtain ⟨Ax, hAx⟩ : ∃ Ax, (if ca = 1 then some (⟨ba, oa, none⟩ : Addr) else some ⟨ba, oa + 5, none⟩) = Ax := ⟨_, rfl⟩
          have HRA := Lib.hid (show RdC W (.slice Ax ta.length (ca - 1)) ta ∧ CapOk (.slice Ax ta.length (ca - 1)) from hAx ▸ tailC HP.out.ra hca)
          obtain ⟨bb, ob, rfl, hb⟩ := gb (by omega)
          have hbt := hb 0 (by simp)
          simp only [Nat.zero_mul, Nat.add_zero, List.getElem_cons_zero] at hbt
          have hbtw := hbt.keep (Below.keeps hP.bel)
          obtain ⟨w0, m0, hw0, _⟩ := hbtw
          have hlb : bb < w'.heap.size := World.block_lt_of_cell? w' _ m0
          have HBt := Lib.hid hbt
          have h1b : 1 ≤ cb := by obtain ⟨A9, n9, c9, e9, h9, _⟩ := hcb; injection e9 with _ e1 e2; omega
          have HCm := Lib.hid (fun (w'' : World) (h1 : RdU w'' v0 (pti x.p)) (h2 : RdU w'' w0 (pti y.p)) => zCmp_any x.p y.p v0 w0 w'' h1 h2 (by rw [RA.out.len _ (HP.out.sa _ (List.mem_cons_self ..)), RB.out.len _ (HP.out.sb _ (List.mem_cons_self ..))]) (by rw [RA.out.len _ (HP.out.sa _ (List.mem_cons_self ..))]; exact HK.out.1) (by rw [RA.out.len _ (HP.out.sa _ (List.mem_cons_self ..))]; exact HK.out.2.1) (RA.out.ok _ (HP.out.sa _ (List.mem_cons_self ..))) (RB.out.ok _ (HP.out.sb _ (List.mem_cons_self ..))))
          have HV := Lib.hid (And.intro hv0 hw0)
          obtain ⟨A0, cc, rfl, hx0⟩ := RdU.point hv0
          obtain ⟨A1, cd, rfl, hx1⟩ := RdU.point hw0
          clear hx0 hx1
          obtain ⟨m, hm, hpe⟩ := HP.out.lt hz
          have HS := Lib.hid (And.intro hm hpe)
          have HTell := Lib.hid (fun (w'' : World) (hi : Inv d w'') (hbe : Below W.heap.size W w'') => HT.out d (some x, none) (.pointer (some ⟨ba, oa, none⟩)) (.pointer none) w'' hi hbe (HA.out.keep (Below.keeps hbe) |> fun h => ⟨_, _, rfl, h⟩) rfl (fun z hz => by injection hz with hz; subst hz; exact HP.out.sa _ (List.mem_cons_self ..)) (fun z hz => by cases hz) (by have := HP.out.len; have := HK.out.2.2; simp at *; omega) (by simp))
          generalize Zb.cmp x.p y.p = z at *
          have z1 : z ≤ 0 := by omega
          have z2 : ¬ z ≥ 0 := by omega
          have sa1 : ((ta.length : Int) + 1 == 0) = false := by simp; omega
          have sa2 : (0 : Int) < (ta.length : Int) + 1 := by omega
          have sa3 : (1 : Int) ≤ (ta.length : Int) + 1 := by omega
          have sb1 : ((tb.length : Int) + 1 == 0) = false := by simp; omega
          have sb2 : (0 : Int) < (tb.length : Int) + 1 := by omega
          have sb3 : (1 : Int) ≤ (tb.length : Int) + 1 := by omega
          clear hP hca hcb hm hpe ga gb ha hat hv0 hb hbt hw0 hz
          go_wp2_with fail
          go_quiet ((go_at_call 58; exact Calls.quiet_of_same ((HCm.out _ (RdU.drewN HV.out.1 _) (RdU.drewN HV.out.2 _)).mono fun e w' ⟨h1, h2⟩ => ⟨h1, h2⟩)))
          go_wp2_with fail
          go_quiet (fail)
          go_wp2_with fail
          have hbe := HP.out.bel
          refine (HTell.out _ (HDr.out _ _ _ HP.out.inv) (Bdrew hbe _)).mono ?_
          rintro e w5 ⟨rfl, hI5, hb5⟩
          have HI5 := Lib.hid (And.intro hI5 hb5)
          clear hI5 hb5 hbe
          generalize hT : T (some x, none) = t at *
          have HTt := Lib.hid hT
          clear hT
          cases t with
          | false =>
            go_wp2_with fail
            simp only [Exit.jump]
            go_ret
            have e : (pairs a b).all T = false := by rw [HS.out.2, List.all_append, List.all_cons, HTt.out]; simp
            exact ⟨by rw [e] <;> rfl, (fun h => by rw [e] at h; cases h), HI5.out.2⟩
          | true =>
            go_wp2_with fail
            go_step3
            refine ⟨rfl, ⟨_, _, m, ta, (y :: tb), d ++ [(some x, none)], _, _, _, _, _, _, _, _, _, _, _, _, _, _, _, _, _, _, _, _, _, _, _, _, _, _, _, _, _, _, _, _, _, _, _, _, _, _, _, _, _, _, _, _, _, _, _, _, rfl, ⟨HRA.out, HP.out.rb, by (try simp only [List.length_cons, List.length_nil]); have := HS.out.1; omega, by rw [HS.out.2, List.append_assoc]; rfl, by rw [List.all_append, HP.out.all, List.all_cons, HTt.out]; rfl, HI5.out.1 (by first | rfl | trivial), HI5.out.2, fun z hz => HP.out.sa z (List.mem_cons_of_mem _ hz), fun z hz => HP.out.sb z (hz), by have := HP.out.len; (try simp only [List.length_cons, List.length_nil, List.length_append] at *); omega⟩⟩, ?_⟩
            simp [lenOf] <;> omega
        · by_cases hz2 : 0 < Zb.cmp x.p y.p
          · skip
            have HP := Lib.hid hP
            obtain ⟨⟨Aa, ca, ea, ga⟩, hca⟩ := hP.ra
            obtain ⟨⟨Ab, cb, eb, gb⟩, hcb⟩ := hP.rb
            subst ea eb
            simp only [List.length_cons, List.length_nil] at *
            obtain ⟨ba, oa, rfl, ha⟩ := ga (by omega)
            have hat := ha 0 (by simp)
            simp only [Nat.zero_mul, Nat.add_zero, List.getElem_cons_zero] at hat
            have hatw := hat.keep (Below.keeps hP.bel)
            obtain ⟨v0, k0, hv0, _⟩ := hatw
            have hla : ba < w'.heap.size := World.block_lt_of_cell? w' _ k0
            have HA := Lib.hid hat
            have h1a : 1 ≤ ca := by obtain ⟨A9, n9, c9, e9, h9, _⟩ := hca; injection e9 with _ e1 e2; omega
            obtain ⟨bb, ob, rfl, hb⟩ := gb (by omega)
            have hbt := hb 0 (by simp)
            simp only [Nat.zero_mul, Nat.add_zero, List.getElem_cons_zero] at hbt
            have hbtw := hbt.keep (Below.keeps hP.bel)
            obtain ⟨w0, m0, hw0, _⟩ := hbtw
            have hlb : bb < w'.heap.size := World.block_lt_of_cell? w' _ m0
            have HBt := Lib.hid hbt
            have h1b : 1 ≤ cb := by obtain ⟨A9, n9, c9, e9, h9, _⟩ := hcb; injection e9 with _ e1 e2; omega
            obtain ⟨Ay, hAy⟩ : ∃ Ay, (if cb = 1 then some (⟨bb, ob, none⟩ : Addr) else some ⟨bb, ob + 5, none⟩) = Ay := ⟨_, rfl⟩
            have HRB := Lib.hid (show RdC W (.slice Ay tb.length (cb - 1)) tb ∧ CapOk (.slice Ay tb.length (cb - 1)) from hAy ▸ tailC HP.out.rb hcb)
            have HCm := Lib.hid (fun (w'' : World) (h1 : RdU w'' v0 (pti x.p)) (h2 : RdU w'' w0 (pti y.p)) => zCmp_any x.p y.p v0 w0 w'' h1 h2 (by rw [RA.out.len _ (HP.out.sa _ (List.mem_cons_self ..)), RB.out.len _ (HP.out.sb _ (List.mem_cons_self ..))]) (by rw [RA.out.len _ (HP.out.sa _ (List.mem_cons_self ..))]; exact HK.out.1) (by rw [RA.out.len _ (HP.out.sa _ (List.mem_cons_self ..))]; exact HK.out.2.1) (RA.out.ok _ (HP.out.sa _ (List.mem_cons_self ..))) (RB.out.ok _ (HP.out.sb _ (List.mem_cons_self ..))))
            have HV := Lib.hid (And.intro hv0 hw0)
            obtain ⟨A0, cc, rfl, hx0⟩ := RdU.point hv0
            obtain ⟨A1, cd, rfl, hx1⟩ := RdU.point hw0
            clear hx0 hx1
            obtain ⟨m, hm, hpe⟩ := HP.out.gt hz hz2
            have HS := Lib.hid (And.intro hm hpe)
            have HTell := Lib.hid (fun (w'' : World) (hi : Inv d w'') (hbe : Below W.heap.size W w'') => HT.out d (none, some y) (.pointer none) (.pointer (some ⟨bb, ob, none⟩)) w'' hi hbe rfl (HBt.out.keep (Below.keeps hbe) |> fun h => ⟨_, _, rfl, h⟩) (fun z hz => by cases hz) (fun z hz => by injection hz with hz; subst hz; exact HP.out.sb _ (List.mem_cons_self ..)) (by have := HP.out.len; have := HK.out.2.2; simp at *; omega) (by simp))
            generalize Zb.cmp x.p y.p = z at *
            have z1 : ¬ z ≤ 0 := by omega
            have z2 : z ≥ 0 := by omega
            have sa1 : ((ta.length : Int) + 1 == 0) = false := by simp; omega
            have sa2 : (0 : Int) < (ta.length : Int) + 1 := by omega
            have sa3 : (1 : Int) ≤ (ta.length : Int) + 1 := by omega
            have sb1 : ((tb.length : Int) + 1 == 0) = false := by simp; omega
            have sb2 : (0 : Int) < (tb.length : Int) + 1 := by omega
            have sb3 : (1 : Int) ≤ (tb.length : Int) + 1 := by omega
            clear hP hca hcb hm hpe ga gb ha hat hv0 hb hbt hw0 hz hz2
            go_wp2_with fail
            go_quiet ((go_at_call 58; exact Calls.quiet_of_same ((HCm.out _ (RdU.drewN HV.out.1 _) (RdU.drewN HV.out.2 _)).mono fun e w' ⟨h1, h2⟩ => ⟨h1, h2⟩)))
            go_wp2_with fail
            go_quiet (fail)
            go_wp2_with fail
            have hbe := HP.out.bel
            refine (HTell.out _ (HDr.out _ _ _ HP.out.inv) (Bdrew hbe _)).mono ?_
            rintro e w5 ⟨rfl, hI5, hb5⟩
            have HI5 := Lib.hid (And.intro hI5 hb5)
            clear hI5 hb5 hbe
            generalize hT : T (none, some y) = t at *
            have HTt := Lib.hid hT
            clear hT
            cases t with
            | false =>
              go_wp2_with fail
              simp only [Exit.jump]
              go_ret
              have e : (pairs a b).all T = false := by rw [HS.out.2, List.all_append, List.all_cons, HTt.out]; simp
              exact ⟨by rw [e] <;> rfl, (fun h => by rw [e] at h; cases h), HI5.out.2⟩
            | true =>
              go_wp2_with fail
              go_step3
              refine ⟨rfl, ⟨_, _, m, (x :: ta), tb, d ++ [(none, some y)], _, _, _, _, _, _, _, _, _, _, _, _, _, _, _, _, _, _, _, _, _, _, _, _, _, _, _, _, _, _, _, _, _, _, _, _, _, _, _, _, _, _, _, _, _, _, _, _, rfl, ⟨HP.out.ra, HRB.out, by (try simp only [List.length_cons, List.length_nil]); have := HS.out.1; omega, by rw [HS.out.2, List.append_assoc]; rfl, by rw [List.all_append, HP.out.all, List.all_cons, HTt.out]; rfl, HI5.out.1 (by first | rfl | trivial), HI5.out.2, fun z hz => HP.out.sa z (hz), fun z hz => HP.out.sb z (List.mem_cons_of_mem _ hz), by have := HP.out.len; (try simp only [List.length_cons, List.length_nil, List.length_append] at *); omega⟩⟩, ?_⟩
              simp [lenOf] <;> omega
          · skip
            have HP := Lib.hid hP
            obtain ⟨⟨Aa, ca, ea, ga⟩, hca⟩ := hP.ra
            obtain ⟨⟨Ab, cb, eb, gb⟩, hcb⟩ := hP.rb
            subst ea eb
            simp only [List.length_cons, List.length_nil] at *
            obtain ⟨ba, oa, rfl, ha⟩ := ga (by omega)
            have hat := ha 0 (by simp)
            simp only [Nat.zero_mul, Nat.add_zero, List.getElem_cons_zero] at hat
            have hatw := hat.keep (Below.keeps hP.bel)
            obtain ⟨v0, k0, hv0, _⟩ := hatw
            have hla : ba < w'.heap.size := World.block_lt_of_cell? w' _ k0
            have HA := Lib.hid hat
            have h1a : 1 ≤ ca := by obtain ⟨A9, n9, c9, e9, h9, _⟩ := hca; injection e9 with _ e1 e2; omega
            obtain ⟨Ax, hAx⟩ : ∃ Ax, (if ca = 1 then some (⟨ba, oa, none⟩ : Addr) else some ⟨ba, oa + 5, none⟩) = Ax := ⟨_, rfl⟩
            have HRA := Lib.hid (show RdC W (.slice Ax ta.length (ca - 1)) ta ∧ CapOk (.slice Ax ta.length (ca - 1)) from hAx ▸ tailC HP.out.ra hca)
            obtain ⟨bb, ob, rfl, hb⟩ := gb (by omega)
            have hbt := hb 0 (by simp)
            simp only [Nat.zero_mul, Nat.add_zero, List.getElem_cons_zero] at hbt
            have hbtw := hbt.keep (Below.keeps hP.bel)
            obtain ⟨w0, m0, hw0, _⟩ := hbtw
            have hlb : bb < w'.heap.size := World.block_lt_of_cell? w' _ m0
            have HBt := Lib.hid hbt
            have h1b : 1 ≤ cb := by obtain ⟨A9, n9, c9, e9, h9, _⟩ := hcb; injection e9 with _ e1 e2; omega
            obtain ⟨Ay, hAy⟩ : ∃ Ay, (if cb = 1 then some (⟨bb, ob, none⟩ : Addr) else some ⟨bb, ob + 5, none⟩) = Ay := ⟨_, rfl⟩
            have HRB := Lib.hid (show RdC W (.slice Ay tb.length (cb - 1)) tb ∧ CapOk (.slice Ay tb.length (cb - 1)) from hAy ▸ tailC HP.out.rb hcb)
            have HCm := Lib.hid (fun (w'' : World) (h1 : RdU w'' v0 (pti x.p)) (h2 : RdU w'' w0 (pti y.p)) => zCmp_any x.p y.p v0 w0 w'' h1 h2 (by rw [RA.out.len _ (HP.out.sa _ (List.mem_cons_self ..)), RB.out.len _ (HP.out.sb _ (List.mem_cons_self ..))]) (by rw [RA.out.len _ (HP.out.sa _ (List.mem_cons_self ..))]; exact HK.out.1) (by rw [RA.out.len _ (HP.out.sa _ (List.mem_cons_self ..))]; exact HK.out.2.1) (RA.out.ok _ (HP.out.sa _ (List.mem_cons_self ..))) (RB.out.ok _ (HP.out.sb _ (List.mem_cons_self ..))))
            have HV := Lib.hid (And.intro hv0 hw0)
            obtain ⟨A0, cc, rfl, hx0⟩ := RdU.point hv0
            obtain ⟨A1, cd, rfl, hx1⟩ := RdU.point hw0
            clear hx0 hx1
            obtain ⟨m, hm, hpe⟩ := HP.out.eq hz hz2
            have HS := Lib.hid (And.intro hm hpe)
            have HTell := Lib.hid (fun (w'' : World) (hi : Inv d w'') (hbe : Below W.heap.size W w'') => HT.out d (some x, some y) (.pointer (some ⟨ba, oa, none⟩)) (.pointer (some ⟨bb, ob, none⟩)) w'' hi hbe (HA.out.keep (Below.keeps hbe) |> fun h => ⟨_, _, rfl, h⟩) (HBt.out.keep (Below.keeps hbe) |> fun h => ⟨_, _, rfl, h⟩) (fun z hz => by injection hz with hz; subst hz; exact HP.out.sa _ (List.mem_cons_self ..)) (fun z hz => by injection hz with hz; subst hz; exact HP.out.sb _ (List.mem_cons_self ..)) (by have := HP.out.len; have := HK.out.2.2; simp at *; omega) (by simp))
            generalize Zb.cmp x.p y.p = z at *
            have z1 : z ≤ 0 := by omega
            have z2 : z ≥ 0 := by omega
            have sa1 : ((ta.length : Int) + 1 == 0) = false := by simp; omega
            have sa2 : (0 : Int) < (ta.length : Int) + 1 := by omega
            have sa3 : (1 : Int) ≤ (ta.length : Int) + 1 := by omega
            have sb1 : ((tb.length : Int) + 1 == 0) = false := by simp; omega
            have sb2 : (0 : Int) < (tb.length : Int) + 1 := by omega
            have sb3 : (1 : Int) ≤ (tb.length : Int) + 1 := by omega
            clear hP hca hcb hm hpe ga gb ha hat hv0 hb hbt hw0 hz hz2
            go_wp2_with fail
            go_quiet ((go_at_call 58; exact Calls.quiet_of_same ((HCm.out _ (RdU.drewN HV.out.1 _) (RdU.drewN HV.out.2 _)).mono fun e w' ⟨h1, h2⟩ => ⟨h1, h2⟩)))
            go_wp2_with fail
            go_quiet (fail)
            go_wp2_with fail
            go_quiet (fail)
            go_wp2_with fail
            have hbe := HP.out.bel
            refine (HTell.out _ (HDr.out _ _ _ HP.out.inv) (Bdrew hbe _)).mono ?_
            rintro e w5 ⟨rfl, hI5, hb5⟩
            have HI5 := Lib.hid (And.intro hI5 hb5)
            clear hI5 hb5 hbe
            generalize hT : T (some x, some y) = t at *
            have HTt := Lib.hid hT
            clear hT
            cases t with
            | false =>
              go_wp2_with fail
              simp only [Exit.jump]
              go_ret
              have e : (pairs a b).all T = false := by rw [HS.out.2, List.all_append, List.all_cons, HTt.out]; simp
              exact ⟨by rw [e] <;> rfl, (fun h => by rw [e] at h; cases h), HI5.out.2⟩
            | true =>
              go_wp2_with fail
              go_step3
              refine ⟨rfl, ⟨_, _, m, ta, tb, d ++ [(some x, some y)], _, _, _, _, _, _, _, _, _, _, _, _, _, _, _, _, _, _, _, _, _, _, _, _, _, _, _, _, _, _, _, _, _, _, _, _, _, _, _, _, _, _, _, _, _, _, _, _, rfl, ⟨HRA.out, HRB.out, by (try simp only [List.length_cons, List.length_nil]); have := HS.out.1; omega, by rw [HS.out.2, List.append_assoc]; rfl, by rw [List.all_append, HP.out.all, List.all_cons, HTt.out]; rfl, HI5.out.1 (by first | rfl | trivial), HI5.out.2, fun z hz => HP.out.sa z (List.mem_cons_of_mem _ hz), fun z hz => HP.out.sb z (List.mem_cons_of_mem _ hz), by have := HP.out.len; (try simp only [List.length_cons, List.length_nil, List.length_append] at *); omega⟩⟩, ?_⟩
              simp [lenOf] <;> omega
  · intro Q' hR
    have hR := Lib.hid hR
    go_wp2_with fail
    go_step3
    simp only [Exit.then]
    rename_i hK
    refine hK _ _ ?_
    refine hR.out _ _ ?_
    exact ⟨_, _, _, a, b, [], _, _, _, _, _, _, _, _, _, _, _, _, _, _, _, _, _, _, _, _, _, _, _, _, _, _, _, _, _, _, _, _, _, _, _, _, _, _, _, _, _, _, _, _, _, _, _, _, rfl, H0.out⟩
end Go.Proofs.YtjokcagggmjgmaaGreat
/-! WlkB -/
namespace Go.Proofs.YtjokcagggmjgmaaGreat
open Go.RowKit
set_option linter.unusedVariables false
set_option linter.unusedSimpArgs false
set_option maxRecDepth 100000

/-- so much has been gathered in the captured variable -/
def InvD (W : World) (B : Nat) (o : List En) (w : World) : Prop :=
  ∃ vo, w.heap[B]? = some (.cells #[vo] 28 (0, 0)) ∧ OwnD (PtNew w) W w vo o ∧ Below W.heap.size W w
theorem InvD.bel {W w : World} {B : Nat} {o : List En} (h : InvD W B o w) : Below W.heap.size W w := let ⟨_, _, _, h⟩ := h; h
theorem InvD.below {W w w' : World} {B : Nat} {o : List En} (h : InvD W B o w) (hb : Below w.heap.size w w') : InvD W B o w' :=
  let ⟨vo, h1, h2, h3⟩ := h
  ⟨vo, (hb.block B (lt_of_block h1)).trans h1, (h2.below hb).mono fun u p h => h.below hb, h3.trans (hb.mono h3.size)⟩
theorem InvD.push {W w3 w4 : World} {B : Nat} {vo v' : Value} {o o' : List En} (hB : W.heap.size ≤ B) (hblk : w3.heap[B]? = some (.cells #[vo] 28 (0, 0))) (hown : OwnD (PtNew w3) W w3 vo o) (hb : Below W.heap.size W w3)
    (hown' : OwnD (PtNew w3) W w4 v' o') (hg : w3.grownBy w4 vo.ownBlock) : w4.heap[B]? = some (.cells #[vo] 28 (0, 0)) ∧ InvD W B o' (w4.setCell ⟨B, 0, none⟩ v') := by
  have hneB : some B ≠ vo.ownBlock := by
    intro e
    obtain ⟨_, cur, hc⟩ := hown.block B e.symm
    rw [hblk] at hc
    injection hc with hc
    injection hc with _ hc _
    exact absurd hc (by decide)
  have h4 : w4.heap[B]? = some (.cells #[vo] 28 (0, 0)) := (hg.block B (lt_of_block hblk) hneB).trans hblk
  have hneB' : v'.ownBlock ≠ some B := by
    intro e
    obtain ⟨_, cur, hc⟩ := hown'.block B e
    rw [h4] at hc
    injection hc with hc
    injection hc with _ hc _
    exact absurd hc (by decide)
  refine ⟨h4, v', one_setCell h4, ?_, ?_⟩
  · obtain ⟨cs, ho, hc⟩ := hown'
    refine ⟨cs, ownsRow_setCell_other ho hneB' _, hc.mono fun u p hp => ?_⟩
    have hp4 : PtNew w4 u p := PtNew.grownD hown hg u p hp
    exact hp4.keepBlock fun b cur fr hbk => by
      refine Below.heap_setCell _ _ _ _ ?_
      intro e
      have e' : b = B := e
      rw [e', h4] at hbk
      injection hbk with hbk
      injection hbk with _ hbk _
      exact absurd hbk (by decide)
  · exact (hb.grown hg hb.size fun k hk => (hown.block k hk).1).setCell hB _
set_option maxHeartbeats 1000000 in
theorem allTell (W w : World) (B : Nat) (o : List En) (e : En) (u : Value) (hW : W.heap.size ≤ B) (hi : InvD W B o w) (hu : PtNew w u e.p) (hol : o.length ≤ 10000) :
    Calls Tryz.prog 138 (#[.agg #[u, .int .u64 (e.v : Nat)]] ++ #[.pointer (some ⟨B, 0, none⟩)]) w fun r w' => r = .returned (.bool true) ∧ InvD W B (o ++ [e]) w' ∧ Below W.heap.size W w' := by
  obtain ⟨vo, hblk, hown, hbW⟩ := hi
  have kb := cell_of_one hblk
  have hlB := lt_of_block hblk
  have HI := Lib.hid (And.intro hblk (And.intro hown (And.intro hbW (And.intro hW (And.intro hol hu)))))
  obtain ⟨Au, cu, rfl, _⟩ := RdU.point hu.rd
  obtain ⟨Ao, co, rfl⟩ := hown.shape
  obtain ⟨p, x⟩ := e
  clear hblk hown hbW hW hol hu
  show Calls Tryz.prog 138 #[.agg #[.slice Au p.length cu, .int .u64 (x : Nat)], .pointer (some ⟨B, 0, none⟩)] w _
  go_enter Tryz.func138, Tryz.ntmps138
  go_wp2_with ((at_builtin; refine wpList_append_D (Pt := PtNew w) rfl (.tmp 4) (.tmp 6) rfl W o ⟨p, x⟩ ?_ ?_ ?_ ?_ ?_ ?_))
  · exact fun u p h => h.rd.below (by repeat (first | exact Below.refl _ _ | (refine Below.drew ?_) | (refine below_drewN' ?_ _) | (refine below_alloc' ?_ _) | (refine Below.setCell ?_ (by first | exact Nat.le_refl _ | (simp; done) | (simp; omega)) _)))
  · exact HI.out.2.1.below (by repeat (first | exact Below.refl _ _ | (refine Below.drew ?_) | (refine below_drewN' ?_ _) | (refine below_alloc' ?_ _) | (refine Below.setCell ?_ (by first | exact Nat.le_refl _ | (simp; done) | (simp; omega)) _)))
  · exact ⟨_, _, _, rfl, by simp [go_sem], HI.out.2.2.2.2.2, by simp [go_sem]⟩
  · have := HI.out.2.2.1.size; simp; omega
  · have := HI.out.2.2.2.2.1; omega
  intro v' w4 hown4 hg4
  obtain ⟨A4, c4, rfl⟩ := hown4.shape
  have hbe : Below w.heap.size w ((w.alloc (.cells #[.slice Au p.length cu, .int .u64 (x : Nat)] 51)).alloc (.cells #[.slice Au p.length cu, .int .u64 (x : Nat)] 51)) := (by repeat (first | exact Below.refl _ _ | (refine Below.drew ?_) | (refine below_drewN' ?_ _) | (refine below_alloc' ?_ _) | (refine Below.setCell ?_ (by first | exact Nat.le_refl _ | (simp; done) | (simp; omega)) _)))
  obtain ⟨hb6, hI6⟩ := InvD.push HI.out.2.2.2.1 ((hbe.block B hlB).trans HI.out.1) ((HI.out.2.1.below hbe).mono fun u p h => h.below hbe) (HI.out.2.2.1.trans (hbe.mono HI.out.2.2.1.size)) (hown4.mono fun u p h => h.below hbe) hg4
  have c6 := cell_of_one hb6
  have f6 := free_of_one hb6
  have hl6 := lt_of_block hb6
  have HI6 := Lib.hid hI6
  clear hown4 hg4 hb6 hI6 hbe kb hlB
  go_wp2_with fail
  go_ret
  exact ⟨rfl, by simpa using HI6.out, by simpa using HI6.out.bel⟩
theorem allFn (W : World) (B N : Nat) (hW : W.heap.size ≤ B) (hN : N ≤ 10000) : Tell W 138 #[.pointer (some ⟨B, 0, none⟩)] N (InvD W B) :=
  ⟨enters_func (Tryz.func138) (by kernel_rfl) (by kernel_rfl), fun d e u w' hd hi hb hu => allTell W w' B d e u hW hi hu (by omega), fun d w' w'' h hb => h.below hb⟩
def AllP (W : World) (l : List En) (e : Ending) (w' : World) : Prop := ∃ v, e = .returned v ∧ OwnD (PtNew w') W w' v l ∧ Below W.heap.size W w'
theorem wall_any (w : World) (k : Nat) (r : Option Nat) (l : List En) (hr : RtN w k r l) (k1 : 1 ≤ k) (k16 : k ≤ 16) (hl : l.length ≤ 10000) : Calls Tryz.prog 80 #[pv r] w fun e w' => AllP w l e w' := by
  have HE := Lib.hid (show ∀ w', InvD w w.heap.size [] w' → Calls Tryz.prog 137 #[pv r, .func (.func 138) #[] #[.pointer (some ⟨w.heap.size, 0, none⟩)]] w' fun e w'' => EachP w (InvD w w.heap.size) l e w'' from fun w' hi => by
    cases r with
    | none =>
      obtain rfl : l = [] := hr
      exact (each_nil w' _ _).mono fun e w'' ⟨h1, h2⟩ => ⟨h1, h2 ▸ hi, h2 ▸ hi.bel⟩
    | some b => exact each_nd w _ _ l.length k _ (allFn w _ l.length (Nat.le_refl _) hl) k1 k16 hr w' [] hi hi.bel (by simp))
  have H0 := Lib.hid (show InvD w w.heap.size [] (w.alloc (.cells #[.slice none 0 0] 28)) from ⟨_, alloc_blk _ _, OwnD.nil _ _ _, (by repeat (first | exact Below.refl _ _ | (refine Below.drew ?_) | (refine below_drewN' ?_ _) | (refine below_alloc' ?_ _) | (refine Below.setCell ?_ (by first | exact Nat.le_refl _ | (simp; done) | (simp; omega)) _)))⟩)
  obtain ⟨q, hq⟩ := pv_ex r
  rw [hq] at HE ⊢
  clear hr hl hq k1 k16
  go_enter Tryz.func80, Tryz.ntmps80
  go_wp2_with fail
  refine (HE.out _ H0.out).mono ?_
  rintro e w1 ⟨rfl, ⟨vo, hblk, hown, hb⟩, _⟩
  have HF := Lib.hid (And.intro hown hb)
  have kb := cell_of_one hblk
  have hl := lt_of_block hblk
  clear hown hb hblk H0
  go_wp2_with fail
  go_ret
  exact ⟨_, rfl, HF.out⟩
end Go.Proofs.YtjokcagggmjgmaaGreat
/-! RefA -/
namespace Go.Proofs.YtjokcagggmjgmaaGreat
open Go.RowKit
set_option linter.unusedVariables false
set_option linter.unusedSimpArgs false

theorem cut_step (c n k : Nat) (h : n ≤ k) : c % 2 ^ (k + 1) / 2 ^ n * 2 ^ n = c % 2 ^ k / 2 ^ n * 2 ^ n + Zb.bit c k * 2 ^ k := by
  obtain ⟨j, rfl⟩ : ∃ j, k = n + j := ⟨k - n, by omega⟩
  have h1 : c % 2 ^ (n + j + 1) = c % 2 ^ (n + j) + 2 ^ (n + j) * Zb.bit c (n + j) := by unfold Zb.bit; exact Nat.mod_pow_succ
  rw [h1, Nat.pow_add 2 n j, Nat.mul_assoc (2 ^ n), Nat.add_mul_div_left _ _ (Nat.two_pow_pos n), Nat.add_mul]
  congr 1
  rw [Nat.mul_comm (Zb.bit c (n + j)), Nat.mul_comm _ (2 ^ n), ← Nat.mul_assoc]
theorem cut_all (c n : Nat) (h : c < 2 ^ 64) : c % 2 ^ 64 / 2 ^ n * 2 ^ n = c / 2 ^ n * 2 ^ n := by rw [Nat.mod_eq_of_lt h]
theorem cut_none (c n : Nat) : c % 2 ^ n / 2 ^ n * 2 ^ n = 0 := by rw [Nat.div_eq_of_lt (Nat.mod_lt _ (Nat.two_pow_pos n)), Nat.zero_mul]
set_option maxRecDepth 100000
theorem rPow_any (n : Nat) (w : World) (hn : n ≤ 40) : Calls Tryz.prog 177 #[.int .i64 (n : Nat)] w fun e w' => e = .returned (.int .u64 (2 ^ n : Nat)) ∧ w' = w := by
  have HN := Lib.hid hn
  clear hn
  go_enter Tryz.func177, Tryz.ntmps177
  go_wp2_with fail
  go_loopw [3, 4] (fun xv iv wr => ∃ j : Nat, j ≤ n ∧ xv = .int .u64 (2 ^ j : Nat) ∧ iv = .int .i64 (j : Nat) ∧ wr = w) (fun _ iv _ => n - (intOf iv).toNat)
  case atStart => exact ⟨0, Nat.zero_le _, rfl, rfl, rfl⟩
  case round =>
    obtain ⟨j, hj, hx, rfl, hw⟩ := hrel
    subst hw
    by_cases hlt : j < n
    · have h3 : (j : Int) < (n : Int) := by omega
      have HW := Lib.hid (show wrap64 ((j : Int) + 1) = ((j + 1 : Nat) : Int) by have := HN.out; unfold wrap64; omega)
      obtain ⟨y, hy⟩ : ∃ y, 2 ^ j = y := ⟨_, rfl⟩
      have h2 : 2 ^ (j + 1) = 2 * y := by rw [Nat.pow_succ, hy, Nat.mul_comm]
      have hyl : y ≤ 2 ^ 40 := by rw [← hy]; exact Nat.pow_le_pow_right (by omega) (by have := HN.out; omega)
      have HY := Lib.hid (And.intro h2 (show IntKind.u64.wrap (2 * (y : Int)) = ((2 * y : Nat) : Int) by rw [IntKind.wrap_u64]; omega))
      rw [hy] at hx
      subst hx
      clear hy h2 hyl
      go_wp2_with fail
      go_roundw
      case rel => exact ⟨j + 1, by omega, by first | rw [HY.out.1, HY.out.2] | (rw [HY.out.1, ← HY.out.2] <;> rfl), (by first | rw [HW.out] | rfl | simp), (by first | rfl | trivial)⟩
      case measure => (first | (rw [intOf_of' HW.out, intOf_of' rfl]; omega) | (simp [intOf]; omega) | (simp [intOf] <;> omega))
    · have h3 : ¬ (j : Int) < (n : Int) := by omega
      obtain rfl : j = n := by omega
      subst hx
      have HH := Lib.hid (show (2 ^ j : Nat) = 2 ^ j from rfl)
      generalize hz : (2 ^ j : Nat) = z at *
      go_wp2_with fail
      go_ret
      exact ⟨rfl, rfl⟩
theorem OwnV.lit {t : TypeId} {W w : World} (hb : W.heap.size ≤ w.heap.size) {g : Nat} (hg : g = w.heap.size) : OwnV t W (w.alloc (.cells #[] t)) (.slice (some ⟨g, 0, none⟩) 0 0) [] := by
  subst hg; exact World.ownsRow_lit w #[] 0 hb (by simp [maxLen]) (by simp)
theorem u64sT : SlT1 48 49 (.int .u64 0) := ⟨Tryz.underlying48, by kernel_rfl, by simp [Value.cells]⟩
set_option maxHeartbeats 2000000 in
theorem rCut_any (p : List Nat) (m : Nat) (v : Value) (w : World) (hv : RdU w v (pti p)) (hl : p.length ≤ 40) (hp : ∀ c ∈ p, c < 2 ^ 64) (hm : m ≤ 64) :
    Calls Tryz.prog 160 #[v, .int .i64 ((m : Int) - 1)] w fun e w' => ∃ v', e = .returned v' ∧ OwnV 49 w w' v' ((pti (Zb.cutN p m)).map (Value.int .u64)) ∧ Below w.heap.size w w' := by
  obtain ⟨A, c, rfl, ga0⟩ := RdU.point hv
  have HD := Lib.hid (And.intro hl (And.intro hp hm))
  have HG := Lib.hid ga0
  have hw0 : wrap64 ((m : Int) - 1 + 1) = (m : Int) := by unfold wrap64; omega
  have HM := Lib.hid hw0
  clear hv hl hp hm ga0 hw0
  obtain ⟨mm, hmm⟩ : ∃ mm : Int, mm = (m : Int) - 1 := ⟨_, rfl⟩
  rw [← hmm] at HM ⊢
  clear hmm
  go_enter Tryz.func160, Tryz.ntmps160
  go_wp2_with fail
  go_loopw [5, 6, 7, 8] (fun ov iv _ _ wr => ∃ j : Nat, j ≤ p.length ∧ iv = .int .i64 (j : Nat) ∧ OwnV 49 w wr ov ((pti (Zb.cutN (p.take j) m)).map (Value.int .u64)) ∧ Below w.heap.size w wr) (fun _ iv _ _ _ => p.length - (intOf iv).toNat)
  case atStart => exact ⟨0, Nat.zero_le _, rfl, OwnV.lit (Nat.le_refl _) rfl, (by repeat (first | exact Below.refl _ _ | (refine Below.drew ?_) | (refine below_drewN' ?_ _) | (refine below_alloc' ?_ _) | (refine Below.setCell ?_ (by first | exact Nat.le_refl _ | (simp; done) | (simp; omega)) _)))⟩
  case round =>
    obtain ⟨j, hj, rfl, hown, hb⟩ := hrel
    have HO := Lib.hid (And.intro hown hb)
    by_cases hlt : j < p.length
    · have h3 : (j : Int) < (p.length : Int) := by omega
      have h5 : (0 : Int) ≤ (j : Int) := by omega
      have HW := Lib.hid (show wrap64 ((j : Int) + 1) = ((j + 1 : Nat) : Int) by have := HD.out.1; unfold wrap64; omega)
      obtain ⟨b2, o2, rfl, hc⟩ := HG.out (by omega)
      have k0 := Below.keeps hb _ _ (hc j hlt)
      have hpj := HD.out.2.1 p[j] (List.getElem_mem hlt)
      have HT := Lib.hid (show (pti (Zb.cutN (p.take (j + 1)) m)).map (Value.int .u64) = (pti (Zb.cutN (p.take j) m)).map (Value.int .u64) ++ [.int .u64 ((p[j] / 2 ^ m * 2 ^ m : Nat) : Int)] by rw [← List.take_append_getElem hlt]; unfold Zb.cutN pti; rw [List.map_append, List.map_append, List.map_append]; rfl)
      have HBT := Lib.hid (fun n w' (hn : n < 64) => rBit_any p[j] n w' hpj hn)
      have hlb := World.block_lt_of_cell? wr _ k0
      have HCA := Lib.hid (And.intro (cut_all p[j] m hpj) (cut_none p[j] m))
      have hcs : ∀ n, m ≤ n → p[j] % 2 ^ (n + 1) / 2 ^ m * 2 ^ m = p[j] % 2 ^ n / 2 ^ m * 2 ^ m + Zb.bit p[j] n * 2 ^ n ∧ p[j] % 2 ^ n / 2 ^ m * 2 ^ m < 2 ^ 64 ∧ Zb.bit p[j] n * 2 ^ n < 2 ^ 64 ∧ Zb.bit p[j] n < 2 := fun n hn => by
        have e1 := cut_step p[j] m n hn
        have e2 : p[j] % 2 ^ (n + 1) / 2 ^ m * 2 ^ m ≤ p[j] := Nat.le_trans (Nat.div_mul_le_self _ _) (Nat.mod_le _ _)
        exact ⟨e1, by omega, by omega, Zb.bit_lt _ _⟩
      have HCS := Lib.hid hcs
      generalize p[j] = c0 at *
      clear hc hpj hb hown hcs
      go_wp2_with fail
      go_loopw [7, 8] (fun cv kv wi => ∃ n : Nat, m ≤ n ∧ n ≤ 64 ∧ kv = .int .i64 (n : Nat) ∧ cv = .int .u64 ((c0 % 2 ^ n / 2 ^ m * 2 ^ m : Nat) : Int) ∧ wi = wr) (fun _ kv _ => 64 - (intOf kv).toNat)
      case atStart => exact ⟨m, Nat.le_refl _, HD.out.2.2, (by first | rw [HM.out] | rfl), by rw [HCA.out.2]; rfl, rfl⟩
      case round =>
        obtain ⟨n, hn1, hn2, rfl, hcv, hwi⟩ := hrel
        subst hwi
        by_cases hn : n < 64
        · obtain ⟨e1, e2, e3, e4⟩ := HCS.out n hn1
          have h6 : (n : Int) < 64 := by omega
          have h7 : (0 : Int) ≤ (n : Int) := by omega
          have HWn := Lib.hid (show wrap64 ((n : Int) + 1) = ((n + 1 : Nat) : Int) by unfold wrap64; omega)
          have HBN := Lib.hid (HBT.out n wr hn)
          have HE := Lib.hid e1
          have HNN := Lib.hid (And.intro hn1 hn)
          have hsh : IntKind.u64.wrap ((Zb.bit c0 n : Nat) : Int) = ((Zb.bit c0 n : Nat) : Int) := by rw [IntKind.wrap_u64]; omega
          obtain ⟨y, hy⟩ : ∃ y, Zb.bit c0 n * 2 ^ n = y := ⟨_, rfl⟩
          have hshl : IntKind.u64.wrap (((Zb.bit c0 n : Nat) : Int) * 2 ^ min n 64) = ((y : Nat) : Int) := by
            rw [Nat.min_eq_left (by omega), show ((Zb.bit c0 n : Nat) : Int) * 2 ^ n = ((y : Nat) : Int) by rw [← hy, Int.natCast_mul, Int.natCast_pow]; rfl, IntKind.wrap_u64]; omega
          obtain ⟨z, hz⟩ : ∃ z, c0 % 2 ^ n / 2 ^ m * 2 ^ m = z := ⟨_, rfl⟩
          have e5 : z + y < 2 ^ 64 := by
            have : c0 % 2 ^ (n + 1) / 2 ^ m * 2 ^ m < 2 ^ 64 := (HCS.out (n + 1) (by omega)).2.1
            omega
          rw [hz] at hcv HE
          rw [hy] at HE
          have hadd : IntKind.u64.wrap ((z : Int) + (y : Int)) = ((z + y : Nat) : Int) := by rw [IntKind.wrap_u64]; omega
          have HSH := Lib.hid (show IntKind.u64.wrap (((Zb.bit c0 n : Nat) : Int) * 2 ^ n) = ((y : Nat) : Int) by rw [Nat.min_eq_left (by omega)] at hshl; exact hshl)
          have HAD := Lib.hid hadd
          generalize Zb.bit c0 n = bt at *
          subst hcv
          clear e1 e2 e3 e4 e5 hz hy hadd hshl hn1 hn2 hn
          go_wp2_with fail
          refine HBN.out.mono ?_
          rintro e w2 ⟨rfl, hw⟩
          obtain rfl := hw.symm
          go_wp2_with fail
          go_roundw
          case rel => exact ⟨n + 1, by have := HNN.out; omega, by have := HNN.out; omega, (by first | rw [HW.out] | rfl | simp), by rw [HE.out, HSH.out, HAD.out], (by first | rfl | trivial)⟩
          case measure => (first | (rw [intOf_of' HW.out, intOf_of' rfl]; omega) | (simp [intOf]; omega) | (simp [intOf] <;> omega))
        · obtain rfl : n = 64 := by omega
          have h6 : ¬ ((64 : Nat) : Int) < 64 := by omega
          rw [HCA.out.1] at hcv
          subst hcv
          obtain ⟨z, hz⟩ : ∃ z, c0 / 2 ^ m * 2 ^ m = z := ⟨_, rfl⟩
          rw [hz] at HT ⊢
          clear hz
          go_wp2_with (at_builtin; refine wpList_append_V rfl (.tmp 33) (.tmp 35) rfl w ((pti (Zb.cutN (p.take j) m)).map (Value.int .u64)) (.int .u64 (z : Nat)) u64sT ?_ ?_ ?_ ?_ ?_)
          · exact HO.out.1.below (by repeat (first | exact Below.refl _ _ | (refine Below.drew ?_) | (refine below_drewN' ?_ _) | (refine below_alloc' ?_ _) | (refine Below.setCell ?_ (by first | exact Nat.le_refl _ | (simp; done) | (simp; omega)) _)))
          · exact ⟨_, _, rfl, by simp [go_sem], rfl⟩
          · have := HO.out.2.size; simp; omega
          · have := HD.out.1; simp [pti, Zb.cutN]; omega
          intro v' w' hown' hg
          have HG2 := Lib.hid (OwnV.grown (HO.out.1.below (by repeat (first | exact Below.refl _ _ | (refine Below.drew ?_) | (refine below_drewN' ?_ _) | (refine below_alloc' ?_ _) | (refine Below.setCell ?_ (by first | exact Nat.le_refl _ | (simp; done) | (simp; omega)) _)))) (HO.out.2.trans ((show Below _ _ _ from (by repeat (first | exact Below.refl _ _ | (refine Below.drew ?_) | (refine below_drewN' ?_ _) | (refine below_alloc' ?_ _) | (refine Below.setCell ?_ (by first | exact Nat.le_refl _ | (simp; done) | (simp; omega)) _)))).mono HO.out.2.size)) hg)
          have HO' := Lib.hid hown'
          clear hown' hg
          go_wp2_with fail
          go_roundw
          case rel => exact ⟨j + 1, by omega, (by first | rw [HW.out] | rfl | simp), by rw [HT.out]; exact HO'.out, HG2.out⟩
          case measure => (first | (rw [intOf_of' HW.out, intOf_of' rfl]; omega) | (simp [intOf]; omega) | (simp [intOf] <;> omega))
    · have e : p.take j = p := List.take_of_length_le (by omega)
      have h3 : ¬ (j : Int) < (p.length : Int) := by omega
      rw [e] at HO
      clear hown hb
      go_wp2_with fail
      go_ret
      exact ⟨_, rfl, HO.out⟩
end Go.Proofs.YtjokcagggmjgmaaGreat
/-! RefK -/
namespace Go.Proofs.YtjokcagggmjgmaaGreat
open Go.RowKit
set_option linter.unusedVariables false
set_option linter.unusedSimpArgs false

theorem head!_get {l : List En} (h : 0 < l.length) : l.head! = l[0] := by
  cases l with
  | nil => simp at h
  | cons a l => rfl
theorem getLast!_get {l : List En} (h : 0 < l.length) : l.getLast! = l[l.length - 1] := by
  cases l with
  | nil => simp at h
  | cons a l => simp [List.getLast!, List.getLast_eq_getElem]
set_option maxRecDepth 100000
theorem rLevel_any (k : Nat) (l : List En) (v : Value) (w : World) (hv : RdE w v l) (he : EtS k l) (h0 : 0 < l.length) :
    Calls Tryz.prog 159 #[v] w fun e w' => e = .returned (.int .i64 ((lev l : Int) - 1)) ∧ Below w.heap.size w w' := by
  obtain ⟨A, c, rfl, z5, hx⟩ := hv
  obtain ⟨b, o, rfl, hc⟩ := hx h0
  obtain ⟨u, k0, ku, z1⟩ := hc 0 h0
  obtain ⟨u2, k1, ku2, z2⟩ := hc (l.length - 1) (by omega)
  have m0 := List.getElem_mem (l := l) h0
  have m1 := List.getElem_mem (l := l) (n := l.length - 1) (by omega)
  have HP := Lib.hid (fun w' (hb : Below w.heap.size w w') => rPart_any l[0].p (l[l.length - 1]'(by omega)).p u u2 w' (ku.below hb) (ku2.below hb) (by rw [he.et.len _ m0]; exact he.k40) (by rw [he.et.len _ m1]; exact he.k40) (he.et.ok _ m0) (he.et.ok _ m1))
  have hlv : Zb.part l[0].p (l[l.length - 1]'(by omega)).p 64 = (lev l : Int) - 1 := by
    unfold lev
    rw [head!_get h0, getLast!_get h0]
    have := Zb.part_ge l[0].p (l[l.length - 1]'(by omega)).p 64
    omega
  rw [hlv] at HP
  have hw0 : wrap64 ((l.length : Int) - 1) = ((l.length - 1 : Nat) : Int) := by have := he.short; unfold wrap64; omega
  have h1 : (0 : Int) ≤ ((l.length - 1 : Nat) : Int) := by omega
  have h2 : ((l.length - 1 : Nat) : Int) < (l.length : Int) := by omega
  have h3 : (0 : Int) < (l.length : Int) := by omega
  have hbl := World.block_lt_of_cell? w _ k0
  obtain ⟨Au, cu, rfl, z3⟩ := RdU.point ku
  obtain ⟨Au2, cu2, rfl, z4⟩ := RdU.point ku2
  rw [Nat.zero_mul, Nat.add_zero] at k0
  clear hx hc he hlv ku ku2 m0 m1
  clear z1 z2 z3 z4 z5
  generalize l[0].p.length = n0 at *
  generalize (l[l.length - 1]'(by omega)).p.length = n2 at *
  generalize l.length - 1 = n1 at *
  generalize l.length = n at *
  generalize (lev l : Int) - 1 = lv at *
  go_enter Tryz.func159, Tryz.ntmps159
  go_wp2_with fail
  go_quiet ((exact Calls.quiet_of_same (HP.out _ (drewN_below _ _))))
  go_wp2_with fail
  go_ret
  exact ⟨rfl, (by repeat (first | exact Below.refl _ _ | (refine Below.drew ?_) | (refine below_drewN' ?_ _) | (refine below_alloc' ?_ _) | (refine Below.setCell ?_ (by first | exact Nat.le_refl _ | (simp; done) | (simp; omega)) _)))⟩
theorem rDense_any (k n : Nat) (w : World) (hk : k ≤ 40) (hn : n ≤ 1000000) :
    Calls Tryz.prog 161 #[.int .i64 (k : Nat), .int .i64 (n : Nat)] w fun e w' => e = .returned (.bool (densB k n)) ∧ w' = w := by
  have HPW := Lib.hid (fun w' => rPow_any k w' hk)
  by_cases h6 : k ≤ 6
  · have h1 : (k : Int) ≤ 6 := by omega
    have hp : 2 ^ k ≤ 64 := Nat.pow_le_pow_right (n := 2) (by omega) h6
    obtain ⟨y, hy⟩ : ∃ y, 2 ^ k = y := ⟨_, rfl⟩
    have hd : densB k n = decide (y < 2 * n) := by unfold densB; rw [hy]; simp [h6]
    rw [hy] at HPW hp
    have HH := Lib.hid hd
    have hw : wrap64 (2 * (n : Int)) = ((2 * n : Nat) : Int) := by unfold wrap64; omega
    have hw2 : wrap64 (y : Int) = (y : Int) := by unfold wrap64; omega
    have HB := Lib.hid (show decide ((y : Int) < 2 * (n : Int)) = decide (y < 2 * n) by
      by_cases h : y < 2 * n
      · rw [decide_eq_true h, decide_eq_true (by omega)]
      · rw [decide_eq_false h, decide_eq_false (by omega)])
    clear hk h6 hy hd hn
    go_enter Tryz.func161, Tryz.ntmps161
    go_wp2_with fail
    refine (HPW.out _).mono ?_
    rintro e w1 ⟨rfl, hww⟩
    obtain rfl := hww.symm
    go_wp2_with fail
    go_ret
    refine ⟨?_, rfl⟩
    rw [HH.out, ← HB.out]
    first | rfl | (simp; done) | (simp <;> rfl)
  · have h1 : ¬ (k : Int) ≤ 6 := by omega
    have HH := Lib.hid (show densB k n = false by unfold densB; simp [h6])
    clear hk h6 hn
    go_enter Tryz.func161, Tryz.ntmps161
    go_wp2_with fail
    go_ret
    exact ⟨by rw [HH.out] <;> rfl, rfl⟩
/-- a slice of slices of entries is handed back: parts of a list that is read in W -/
def GrpP (W0 W : World) (gs : List (List En)) (w' : World) (v : Value) : Prop := ∃ vs : List Value, OwnV 28 W w' v vs ∧ vs.length = gs.length ∧ ∀ i (h : i < vs.length) (h' : i < gs.length), RdE W0 vs[i] gs[i]
end Go.Proofs.YtjokcagggmjgmaaGreat
/-! RefL -/
namespace Go.Proofs.YtjokcagggmjgmaaGreat
open Go.RowKit
set_option linter.unusedVariables false
set_option linter.unusedSimpArgs false

structure SlTn (st et : TypeId) (z : Value) (n : Nat) : Prop where
  und : Tryz.prog.underlying st = some (.slice et)
  info : (Tryz.prog.info? et).map (fun i => (i.zero, i.size, i.bytes)) = some (some z, 1, n)
  one : z.cells.size = 1
  le : n ≤ 64
theorem run_append_Vn {st et : TypeId} {z : Value} {n : Nat} (hi : SlTn st et z n) (W w : World) (v x : Value) (l : List Value) (y : Value) (hown : OwnV et W w v l) (hx : SrcV w x y) (hb : W.heap.size ≤ w.heap.size) (hlen : l.length ≤ 100000) (ty : TypeId) :
    ∃ v' w', (Builtin.append_ #[st, st] ty #[v, x]).run Tryz.prog w = .ok v' w' ∧ OwnV et W w' v' (l ++ [y]) ∧ w.grownBy w' v.ownBlock := by
  obtain ⟨v', w', a1, a2, a3⟩ := run_append_src (P := Tryz.prog) w W.heap.size st ty et z 1 n hi.und hi.info hi.one (by omega) v l.length l hown x 1 [y] hx.src (by simp only [maxLen]; omega) (Nat.le_trans (Nat.mul_le_mul (show l.length + 1 ≤ 100001 by omega) hi.le) (by omega)) hb
  exact ⟨v', w', a1, by unfold OwnV; rw [List.length_append]; exact a2, a3⟩
theorem wpList_append_Vn {st et : TypeId} {z : Value} {n : Nat} {w : World} {ops : Array Oper} {rest : List Oper} {o : Oper} {a : Act} {Q : Exit → Act → World → Prop} (hgd : o.guard = none) (s x : Operand)
    (ho : o.op = .call { callee := .builtin .append, args := #[s, x], argTypes := #[st, st] }) (W : World) (l : List Value) (y : Value) (hi : SlTn st et z n)
    (hown : OwnV et W w (a.eval s) l) (hx : SrcV w (a.eval x) y) (hb : W.heap.size ≤ w.heap.size) (hlen : l.length ≤ 100000)
    (h : ∀ v' w', OwnV et W w' v' (l ++ [y]) → w.grownBy w' (a.eval s).ownBlock → wpList Tryz.prog ops Q rest (a.put o.dst v') w') : wpList Tryz.prog ops Q (o :: rest) a w := by
  refine wpList_plain hgd fun K hK => ?_
  obtain ⟨v', w', hrun, r1, r2⟩ := run_append_Vn hi W w _ _ l y hown hx hb hlen o.type
  unfold Oper.wp
  simp [execOp, ho, resolve, invoke, builtin, hrun, Result.andThen]
  exact hK _ _ (h v' w' r1 r2)
theorem entsT : SlTn 162 28 (.slice none 0 0) 24 := ⟨Tryz.underlying162, by kernel_rfl, by simp [Value.cells], by omega⟩
theorem GrpP.below {W0 W w w' : World} {gs : List (List En)} {v : Value} (h : GrpP W0 W gs w v) (hb : Below w.heap.size w w') : GrpP W0 W gs w' v := let ⟨vs, h1, h2⟩ := h; ⟨vs, h1.below hb, h2⟩
theorem alloc_cell0 (w : World) (v : Value) (t : TypeId) : (w.alloc (.cells #[v] t)).cell? ⟨w.heap.size, 0, none⟩ = some v := by simp [go_sem]
theorem GrpP.snoc {W0 W w : World} {gs : List (List En)} {v : Value} {vs : List Value} {x : Value} {g : List En} (h : OwnV 28 W w v (vs ++ [x])) (hl : vs.length = gs.length) (hs : ∀ i (h : i < vs.length) (h' : i < gs.length), RdE W0 vs[i] gs[i]) (hx : RdE W0 x g) : GrpP W0 W (gs ++ [g]) w v := by
  refine ⟨vs ++ [x], h, by simp [hl], fun i h1 h2 => ?_⟩
  by_cases hi : i < vs.length
  · rw [List.getElem_append_left hi, List.getElem_append_left (by omega)]; exact hs i hi (by omega)
  · have : i = vs.length := by simp at h1; omega
    subst this
    rw [List.getElem_append_right (Nat.le_refl _), List.getElem_append_right (by omega)]
    simp [hl]; exact hx
theorem grp_bound {f : En → Nat} {l : List En} {fr i : Nat} {a : Nat} (h1 : fr < i) (h2 : i ≤ l.length) (ha : ∀ e ∈ (l.drop fr).take (i - fr), f e = a) (hb : ∀ h : i < l.length, f l[i] ≠ a) :
    grp f (l.drop fr) = (l.drop fr).take (i - fr) :: grp f (l.drop i) := by
  have e : l.drop fr = (l.drop fr).take (i - fr) ++ l.drop i := by
    conv => lhs; rw [← List.take_append_drop (i - fr) (l.drop fr)]
    rw [List.drop_drop, show fr + (i - fr) = i by omega]
  conv => lhs; rw [e]
  refine grp_run f a _ _ ?_ ha ?_
  · intro h
    have := congrArg List.length h
    rw [List.length_take, List.length_drop] at this
    simp at this; omega
  · intro y hy
    rw [List.head?_drop] at hy
    obtain ⟨hi, hy⟩ := List.getElem?_eq_some_iff.1 (Option.mem_def.1 hy)
    rw [← hy]; exact hb hi
set_option maxRecDepth 100000
set_option maxHeartbeats 1000000 in
theorem rKids_any (k n : Nat) (l : List En) (v : Value) (W0 w : World) (hv0 : RdE W0 v l) (hb0 : Below W0.heap.size W0 w) (he : EtS k l) (hlv : lev l = n + 1) (h0 : 0 < l.length) :
    Calls Tryz.prog 109 #[v] w fun e w' => ∃ v', e = .returned v' ∧ GrpP W0 w (kidsL l) w' v' ∧ Below w.heap.size w w' := by
  have hn : n < 64 := by have := lev_le l; omega
  have hv := hv0.below hb0
  have HLV := Lib.hid (fun w' (hb : Below w.heap.size w w') => rLevel_any k l v w' (hv.below hb) he h0)
  rw [hlv] at HLV
  have hnn : ((n + 1 : Nat) : Int) - 1 = (n : Int) := by omega
  rw [hnn] at HLV
  obtain ⟨f, hf⟩ : ∃ f : En → Nat, f = fun e => Zb.addr e.p n := ⟨_, rfl⟩
  have HK := Lib.hid (show kidsL l = grp f l by unfold kidsL; rw [hlv, hf]; rfl)
  have HV := Lib.hid hv0
  obtain ⟨A, c, rfl, ⟨hcap, _, _⟩, hx⟩ := hv
  obtain ⟨b, o, rfl, hcells⟩ := hx h0
  have HC := Lib.hid hcells
  have HD := Lib.hid (And.intro he.short (And.intro h0 hcap))
  have HAD := Lib.hid (fun i (hi : i < l.length) u w' (hb : Below w.heap.size w w') (hu : RdU w u (pti l[i].p)) => rAddr_any l[i].p n u w' (hu.below hb) (by rw [he.et.len _ (List.getElem_mem hi)]; exact he.k40) (he.et.ok _ (List.getElem_mem hi)) hn)
  clear he hx hcells hlv hnn hv0 hb0
  go_enter Tryz.func109, Tryz.ntmps109
  go_wp2_with fail
  refine (HLV.out _ (by repeat (first | exact Below.refl _ _ | (refine Below.drew ?_) | (refine below_drewN' ?_ _) | (refine below_alloc' ?_ _) | (refine Below.setCell ?_ (by first | exact Nat.le_refl _ | (simp; done) | (simp; omega)) _)))).mono ?_
  rintro e w1 ⟨rfl, hb1⟩
  have HB1 := Lib.hid (show Below w.heap.size w w1 from below_trans (by repeat (first | exact Below.refl _ _ | (refine Below.drew ?_) | (refine below_drewN' ?_ _) | (refine below_alloc' ?_ _) | (refine Below.setCell ?_ (by first | exact Nat.le_refl _ | (simp; done) | (simp; omega)) _))) hb1)
  have HO1 := Lib.hid (show GrpP W0 w [] w1 (.slice (some ⟨w.heap.size, 0, none⟩) 0 0) from ⟨[], (OwnV.lit (W := w) (Nat.le_refl _) rfl).below hb1, rfl, fun i h => absurd h (Nat.not_lt_zero _)⟩)
  clear hb1
  go_wp2_with fail
  go_loopw [3, 5, 6] (fun ov fv iv wr => ∃ (i fr : Nat) (gs : List (List En)), iv = .int .i64 (i : Nat) ∧ fv = .int .i64 (fr : Nat) ∧ 1 ≤ i ∧ GrpP W0 w gs wr ov ∧ gs ++ grp f (l.drop fr) = grp f l ∧ gs.length ≤ fr ∧
      ((i ≤ l.length ∧ fr < i ∧ ∃ a, ∀ e ∈ (l.drop fr).take (i - fr), f e = a) ∨ (i = l.length + 1 ∧ fr = l.length)) ∧ Below w.heap.size w wr) (fun _ _ iv _ => l.length + 1 - (intOf iv).toNat)
  case atStart =>
    refine ⟨1, 0, [], rfl, rfl, Nat.le_refl _, HO1.out, by simp, Nat.le_refl _, .inl ⟨HD.out.2.1, Nat.one_pos, f (l[0]'HD.out.2.1), fun e he => ?_⟩, HB1.out⟩
    have h0 := HD.out.2.1
    cases l with
    | nil => simp at h0
    | cons x l => simp at he; rw [he]; rfl
  case round =>
    obtain ⟨i, fr, gs, rfl, rfl, hi1, hg, hgs, hgl, hcase, hb⟩ := hrel
    rcases hcase with ⟨hil, hfi, a, ha⟩ | ⟨rfl, rfl⟩
    · have h3 : (i : Int) ≤ (l.length : Int) := by omega
      have HW := Lib.hid (show wrap64 ((i : Int) + 1) = ((i + 1 : Nat) : Int) by have := HD.out.1; unfold wrap64; omega)
      have hsl := (HV.out.drop' fr (by omega))
      rw [← List.length_drop] at hsl
      have hcf : ¬ c = fr := by have := HD.out.2.2; omega
      rw [if_neg hcf] at hsl
      have HSL := Lib.hid (RdE.take hsl (i - fr) (by rw [List.length_drop]; omega))
      have h5 : (0 : Int) ≤ (fr : Int) := by omega
      have h6 : (fr : Int) ≤ (i : Int) := by omega
      have h7 : (i : Int) ≤ (c : Int) := by have := HD.out.2.2; omega
      have HG := Lib.hid (And.intro hg (And.intro hgs hgl))
      have HR := Lib.hid (And.intro hil (And.intro hfi ha))
      have HB := Lib.hid hb
      by_cases hlast : i = l.length
      · subst hlast
        have h8 : ((l.length : Int) == (l.length : Int)) = true := by simp
        have hbd := grp_bound hfi (Nat.le_refl _) ha (fun h => absurd h (Nat.lt_irrefl _))
        rw [List.drop_length] at hbd
        have HBD := Lib.hid (show (gs ++ [(l.drop fr).take (l.length - fr)]) ++ grp f (l.drop l.length) = grp f l by rw [← hgs, hbd, List.drop_length, List.append_assoc]; rfl)
        obtain ⟨vs, hown, hvl, hvs⟩ := hg
        have HO := Lib.hid (And.intro hown (And.intro hvl hvs))
        clear hbd hgs hgl hown hvl hvs hsl ha hb hfi hi1 hil
        go_wp2_with fail
        go_quiet (fail)
        go_wp2_with (at_builtin; refine wpList_append_Vn rfl (.tmp 37) (.tmp 42) rfl w vs (.slice (some ⟨b, o + fr * 2, none⟩) (l.length - fr) (c - fr)) entsT ?_ ?_ ?_ ?_ ?_)
        · exact HO.out.1.below (by repeat (first | exact Below.refl _ _ | (refine Below.drew ?_) | (refine below_drewN' ?_ _) | (refine below_alloc' ?_ _) | (refine Below.setCell ?_ (by first | exact Nat.le_refl _ | (simp; done) | (simp; omega)) _)))
        · exact ⟨_, _, rfl, alloc_cell0 _ _ _, rfl⟩
        · have := HB.out.size; simp; omega
        · have := HD.out.1; have := HG.out.2.2; have := HO.out.2.1; have := HR.out; omega
        · intro v' w' hown' hg'
          have HG2 := Lib.hid (OwnV.grown (HO.out.1.below (by repeat (first | exact Below.refl _ _ | (refine Below.drew ?_) | (refine below_drewN' ?_ _) | (refine below_alloc' ?_ _) | (refine Below.setCell ?_ (by first | exact Nat.le_refl _ | (simp; done) | (simp; omega)) _)))) (HB.out.trans ((show Below _ _ _ from (by repeat (first | exact Below.refl _ _ | (refine Below.drew ?_) | (refine below_drewN' ?_ _) | (refine below_alloc' ?_ _) | (refine Below.setCell ?_ (by first | exact Nat.le_refl _ | (simp; done) | (simp; omega)) _)))).mono HB.out.size)) hg')
          have HF := Lib.hid (And.intro (GrpP.snoc hown' HO.out.2.1 HO.out.2.2 HSL.out) HG2.out)
          clear hown' hg'
          go_wp2_with fail
          go_roundw
          case rel => exact ⟨l.length + 1, l.length, gs ++ [(l.drop fr).take (l.length - fr)], (by first | rw [HW.out] | rfl | simp), rfl, by omega, HF.out.1, HBD.out, by have := HG.out.2.2; have := HR.out.2.1; simp; omega, .inr ⟨rfl, rfl⟩, HF.out.2⟩
          case measure => (first | (rw [intOf_of' HW.out, intOf_of' rfl]; omega) | (simp [intOf]; omega) | (simp [intOf] <;> omega))
      · have hlt : i < l.length := by omega
        have h8 : ((i : Int) == (l.length : Int)) = false := by simp; omega
        have h9 : (i : Int) < (l.length : Int) := by omega
        have h10 : (fr : Int) < (l.length : Int) := by omega
        have h11 : (0 : Int) ≤ (i : Int) := by omega
        have hlf : fr < l.length := by omega
        obtain ⟨u, k0, ku, z1⟩ := HC.out i hlt
        obtain ⟨u2, k1, ku2, z2⟩ := HC.out fr hlf
        replace k0 := Below.keeps hb _ _ k0
        replace k1 := Below.keeps hb _ _ k1
        have hbl := World.block_lt_of_cell? wr _ k0
        have HA1 := Lib.hid (fun w' hb => HAD.out i hlt u w' hb ku)
        have HA2 := Lib.hid (fun w' hb => HAD.out fr hlf u2 w' hb ku2)
        have hfa : f l[fr] = a := ha _ (by
          rw [List.mem_iff_getElem]
          exact ⟨0, by rw [List.length_take, List.length_drop]; omega, by rw [List.getElem_take, List.getElem_drop]; simp⟩)
        have hfe : Zb.addr l[fr].p n = a := by rw [← hfa, hf]
        rw [hfe] at HA2
        have hfi2 : f l[i] = Zb.addr l[i].p n := by rw [hf]
        obtain ⟨a2, ha2⟩ : ∃ a2, Zb.addr l[i].p n = a2 := ⟨_, rfl⟩
        rw [ha2] at HA1 hfi2
        obtain ⟨Au, cu, rfl, z3⟩ := RdU.point ku
        obtain ⟨Au2, cu2, rfl, z4⟩ := RdU.point ku2
        clear z1 z2 z3 z4 ku ku2 ha2 hfe
        generalize hn1 : l[i].p.length = n1 at *
        generalize hn2 : l[fr].p.length = n2 at *
        clear hn1 hn2
        by_cases haa : a2 = a
        · have h12 : ((a2 : Int) != (a : Int)) = false := by simp [haa]
          have HEX := Lib.hid (show ∀ e ∈ (l.drop fr).take (i + 1 - fr), f e = a from fun e he => by
            rw [List.mem_iff_getElem] at he
            obtain ⟨j, hj, rfl⟩ := he
            rw [List.length_take, List.length_drop] at hj
            rw [List.getElem_take, List.getElem_drop]
            by_cases hji : fr + j = i
            · have e1 : l[fr + j]'(by omega) = l[i] := by congr 1
              rw [e1, hfi2, haa]
            · refine ha _ ?_
              rw [List.mem_iff_getElem]
              exact ⟨j, by rw [List.length_take, List.length_drop]; omega, by rw [List.getElem_take, List.getElem_drop]⟩)
          clear hg hgs hgl hsl ha hb hfi hi1 hil hfa hfi2 haa
          go_wp2_with fail
          go_quiet ((first | with_reducible exact Calls.quiet_of_same (HA1.out _ (below_drewN' HB.out _)) | with_reducible exact Calls.quiet_of_same (HA2.out _ (below_drewN' HB.out _))))
          go_wp2_with fail
          go_roundw
          case rel => exact ⟨i + 1, fr, gs, (by first | rw [HW.out] | rfl | simp), rfl, by omega, HG.out.1.below (by repeat (first | exact Below.refl _ _ | (refine Below.drew ?_) | (refine below_drewN' ?_ _) | (refine below_alloc' ?_ _) | (refine Below.setCell ?_ (by first | exact Nat.le_refl _ | (simp; done) | (simp; omega)) _))), HG.out.2.1, HG.out.2.2, .inl ⟨by omega, by have := HR.out.2.1; omega, a, HEX.out⟩, (by repeat (first | exact HB.out | (refine Below.drew ?_) | (refine below_drewN' ?_ _) | (refine below_alloc' ?_ _) | (refine Below.setCell ?_ (by first | exact Nat.le_refl _ | (have := HB.out.size; simp; omega) | (have := HB.out.size; omega)) _)))⟩
          case measure => (first | (rw [intOf_of' HW.out, intOf_of' rfl]; omega) | (simp [intOf]; omega) | (simp [intOf] <;> omega))
        · have h12 : ((a2 : Int) != (a : Int)) = true := by simp; omega
          have hbd := grp_bound hfi hil ha (fun _ => by rw [hfi2]; exact haa)
          have HBD := Lib.hid (show (gs ++ [(l.drop fr).take (i - fr)]) ++ grp f (l.drop i) = grp f l by rw [← hgs, hbd, List.append_assoc]; rfl)
          have HEX := Lib.hid (show ∀ e ∈ (l.drop i).take (i + 1 - i), f e = a2 from fun e he => by
            rw [show i + 1 - i = 1 by omega, List.take_one, List.head?_drop] at he
            rw [List.getElem?_eq_getElem hlt] at he
            simp at he
            rw [he, hfi2])
          obtain ⟨vs, hown, hvl, hvs⟩ := hg
          have HO := Lib.hid (And.intro hown (And.intro hvl hvs))
          clear hbd hgs hgl hown hvl hvs hsl ha hb hfi hi1 hil hfa hfi2
          go_wp2_with fail
          go_quiet ((first | with_reducible exact Calls.quiet_of_same (HA1.out _ (below_drewN' HB.out _)) | with_reducible exact Calls.quiet_of_same (HA2.out _ (below_drewN' HB.out _))))
          go_wp2_with (at_builtin; refine wpList_append_Vn rfl (.tmp 37) (.tmp 42) rfl w vs (.slice (some ⟨b, o + fr * 2, none⟩) (i - fr) (c - fr)) entsT ?_ ?_ ?_ ?_ ?_)
          · exact HO.out.1.below (by repeat (first | exact Below.refl _ _ | (refine Below.drew ?_) | (refine below_drewN' ?_ _) | (refine below_alloc' ?_ _) | (refine Below.setCell ?_ (by first | exact Nat.le_refl _ | (simp; done) | (simp; omega)) _)))
          · exact ⟨_, _, rfl, alloc_cell0 _ _ _, rfl⟩
          · have := HB.out.size; simp; omega
          · have := HD.out.1; have := HG.out.2.2; have := HO.out.2.1; have := HR.out; omega
          · intro v' w' hown' hg'
            have HG2 := Lib.hid (OwnV.grown (HO.out.1.below (by repeat (first | exact Below.refl _ _ | (refine Below.drew ?_) | (refine below_drewN' ?_ _) | (refine below_alloc' ?_ _) | (refine Below.setCell ?_ (by first | exact Nat.le_refl _ | (simp; done) | (simp; omega)) _)))) (HB.out.trans ((show Below _ _ _ from (by repeat (first | exact Below.refl _ _ | (refine Below.drew ?_) | (refine below_drewN' ?_ _) | (refine below_alloc' ?_ _) | (refine Below.setCell ?_ (by first | exact Nat.le_refl _ | (simp; done) | (simp; omega)) _)))).mono HB.out.size)) hg')
            have HF := Lib.hid (And.intro (GrpP.snoc hown' HO.out.2.1 HO.out.2.2 HSL.out) HG2.out)
            clear hown' hg'
            go_wp2_with fail
            go_roundw
            case rel => exact ⟨i + 1, i, gs ++ [(l.drop fr).take (i - fr)], (by first | rw [HW.out] | rfl | simp), rfl, by omega, HF.out.1, HBD.out, by have := HG.out.2.2; have := HR.out.2.1; simp; omega, .inl ⟨by omega, by omega, a2, HEX.out⟩, HF.out.2⟩
            case measure => (first | (rw [intOf_of' HW.out, intOf_of' rfl]; omega) | (simp [intOf]; omega) | (simp [intOf] <;> omega))
    · have h3 : ¬ (((l.length + 1 : Nat)) : Int) ≤ (l.length : Int) := by omega
      have e : gs = grp f l := by
        have := hgs
        rw [List.drop_length] at this
        simpa [grp] using this
      subst e
      have HG := Lib.hid hg
      have HB := Lib.hid hb
      clear hg hgs hgl hb hi1
      go_wp2_with fail
      go_ret
      exact ⟨_, rfl, by rw [HK.out]; exact HG.out, HB.out⟩
end Go.Proofs.YtjokcagggmjgmaaGreat
/-! RefS -/
namespace Go.Proofs.YtjokcagggmjgmaaGreat
open Go.RowKit
set_option linter.unusedVariables false
set_option linter.unusedSimpArgs false

/-- a value reads as a shape -/
def ShR (w : World) (x : Value) (s : Sh) : Prop := ∃ u pl, x = .agg #[.int .i64 s.lv, u, pl, .bool s.dense, .int .u64 (s.v : Nat)] ∧ RdU w u (pti s.pre) ∧ Sl w pl (s.pl.map fun (x : Nat) => Value.int .i64 (x : Nat))
theorem ShR.below {w w' : World} {x : Value} {s : Sh} (h : ShR w x s) (hb : Below w.heap.size w w') : ShR w' x s := let ⟨u, pl, h1, h2, h3⟩ := h; ⟨u, pl, h1, h2.below hb, h3.below hb⟩
theorem ShV.rd {W w : World} {s : Sh} {x : Value} (h : ShV W w s x) : ShR w x s := let ⟨u, p9, h1, h2, h3⟩ := h.ex; ⟨u, p9, h1, h2.rd, h3.rd⟩
theorem grown_keep {T : TypeId} {W w w' : World} {v : Value} {l : List Value} (h : OwnV T W w v l) (hg : w.grownBy w' v.ownBlock) {b : Nat} {cur : Array Value} {t : TypeId} {fr : Nat × Nat} (ht : t ≠ T) (hb : w.heap[b]? = some (.cells cur t fr)) : w'.heap[b]? = w.heap[b]? :=
  hg.block b (kr_lt hb) fun e => by
    obtain ⟨_, c2, h2⟩ := h.block b e.symm
    rw [hb] at h2
    injection h2 with h2
    injection h2 with _ h2 _
    exact ht h2
/-- a shape whose rows are told apart from rows of shapes by their blocks' types, or were there in W0 -/
def ShK (W0 W w : World) (x : Value) (s : Sh) : Prop := ∃ u pl, x = .agg #[.int .i64 s.lv, u, pl, .bool s.dense, .int .u64 (s.v : Nat)] ∧ (RdU W0 u (pti s.pre) ∨ PtNew w u s.pre) ∧ OwnV 3 W w pl (s.pl.map fun (x : Nat) => Value.int .i64 (x : Nat))
theorem ShK.below {W0 W w w' : World} {x : Value} {s : Sh} (h : ShK W0 W w x s) (hb : Below w.heap.size w w') : ShK W0 W w' x s := by
  obtain ⟨u, pl, h1, h2, h3⟩ := h
  exact ⟨u, pl, h1, h2.imp id (·.below hb), h3.below hb⟩
theorem ShK.rd {W0 W w : World} {x : Value} {s : Sh} (h : ShK W0 W w x s) (hb : Below W0.heap.size W0 w) : ShR w x s := by
  obtain ⟨u, pl, h1, h2, h3⟩ := h
  exact ⟨u, pl, h1, h2.elim (·.below hb) (·.rd), h3.rd⟩
theorem ShV.k {W0 W w : World} {s : Sh} {x : Value} (h : ShV W w s x) : ShK W0 W w x s := let ⟨u, p9, h1, h2, h3⟩ := h.ex; ⟨u, p9, h1, .inr h2, h3⟩
theorem Kd.k1 {k n : Nat} {pre : List Nat} {ks : List (Nat × List En)} (h : Kd k n pre ks) : 1 ≤ k := by
  obtain ⟨x, hx, y, hy, hlt, _⟩ := h.ends
  have h1 := h.addr_lt hy
  rcases Nat.eq_zero_or_pos k with rfl | h0
  · simp at h1; omega
  · exact h0
def ShRP (W0 W : World) (s : Sh) (e : Ending) (w' : World) : Prop := ∃ x, e = .returned x ∧ ShK W0 W w' x s ∧ Below W.heap.size W w'
set_option maxRecDepth 100000
set_option maxHeartbeats 4000000 in
theorem rShape_one (W0 w : World) (e : En) (v : Value) (hv : RdE W0 v [e]) (hb0 : Below W0.heap.size W0 w) : Calls Tryz.prog 108 #[v] w fun e' w' => ShRP W0 w (shL [e]) e' w' := by
  obtain ⟨A, c, rfl, _, hx⟩ := hv
  obtain ⟨b, o, rfl, hc⟩ := hx (by simp)
  obtain ⟨u, k0, ku, k1⟩ := hc 0 (by simp)
  simp only [Nat.zero_mul, Nat.add_zero, List.getElem_cons_zero] at k0 ku k1
  replace k0 := Below.keeps hb0 _ _ k0
  replace k1 := Below.keeps hb0 _ _ k1
  clear hb0
  have hbl : b < w.heap.size := World.block_lt_of_cell? w _ k0
  have HU := Lib.hid ku
  obtain ⟨A9, c9, rfl, z⟩ := RdU.point ku
  have hbn : ¬ w.heap.size = b := by omega
  obtain ⟨n9, hn9⟩ : ∃ n9, e.p.length = n9 := ⟨_, rfl⟩
  rw [hn9] at HU k0
  clear hx hc z ku hn9
  simp only [List.length_singleton]
  go_enter Tryz.func108, Tryz.ntmps108
  go_wp2_with fail
  refine wp_region_vals 9 [fun z9 _ => z9 = .slice (some ⟨b, o, none⟩) 1 c,
    fun z9 _ => z9 = .pointer (some ⟨b, o, none⟩),
    fun z9 _ => z9 = .pointer (some ⟨b, o, none⟩),
    fun z9 _ => z9 = .slice A9 n9 c9,
    fun z9 _ => z9 = .slice (some ⟨b, o, none⟩) 1 c,
    fun z9 _ => z9 = .pointer (some ⟨b, o, none⟩),
    fun z9 _ => z9 = .pointer (some ⟨b, o + 1, none⟩),
    fun z9 _ => z9 = .int .u64 (e.v : Nat),
    fun z9 _ => z9 = .agg #[.int .i64 (-1), .slice A9 n9 c9, .slice none 0 0, .bool false, .int .u64 (e.v : Nat)]]
    (by kernel_rfl) (by kernel_rfl) (by kernel_rfl) (by kernel_rfl) ?_ ?_ ?_
  · intro V hV v w1 w2 h hb
    simp only [List.mem_cons, List.not_mem_nil, or_false] at hV
    rcases hV with rfl | rfl | rfl | rfl | rfl | rfl | rfl | rfl | rfl
    all_goals first | exact h | (exact h)
  · intro iq oq hiq hoq
    match iq, hiq with
    | 0, _ =>
    obtain rfl := Option.some.inj hoq
    intro a1 w1 K hk hK
    have e0 : a1.tmps.getD 0 undef = .slice (some ⟨b, o, none⟩) 1 c := hk.same 0 (by simp)
    simp [Region.wanted, Oper.wp, Act.eval, go_sem, e0, k0, k1, hbl, hbn]
    exact hK _ _ (Below.refl _ _) rfl
    | 1, _ =>
    obtain rfl := Option.some.inj hoq
    intro a1 w1 K hk hK
    have d9 : a1.tmps.getD 9 undef = .slice (some ⟨b, o, none⟩) 1 c := hk.deps ⟨0, .data⟩ (by simp) rfl _ _ rfl rfl
    simp [Region.wanted, Oper.wp, Act.eval, go_sem, d9, k0, k1, hbl, hbn]
    exact hK _ _ (Below.refl _ _) rfl
    | 2, _ =>
    obtain rfl := Option.some.inj hoq
    intro a1 w1 K hk hK
    have d10 : a1.tmps.getD 10 undef = .pointer (some ⟨b, o, none⟩) := hk.deps ⟨1, .data⟩ (by simp) rfl _ _ rfl rfl
    simp [Region.wanted, Oper.wp, Act.eval, go_sem, d10, k0, k1, hbl, hbn]
    exact hK _ _ (Below.refl _ _) rfl
    | 3, _ =>
    obtain rfl := Option.some.inj hoq
    intro a1 w1 K hk hK
    have d11 : a1.tmps.getD 11 undef = .pointer (some ⟨b, o, none⟩) := hk.deps ⟨2, .data⟩ (by simp) rfl _ _ rfl rfl
    have c0 : w1.cell? ⟨b, o, none⟩ = some (.slice A9 n9 c9) := Below.keeps hk.ext _ _ (by simp [go_sem, k0, k1, hbl, hbn])
    have c1 : w1.cell? ⟨b, o + 1, none⟩ = some (.int .u64 (e.v : Nat)) := Below.keeps hk.ext _ _ (by simp [go_sem, k0, k1, hbl, hbn])
    simp [Region.wanted, Oper.wp, Act.eval, go_sem, d11, c0, c1, k0, k1, hbl, hbn]
    exact hK _ _ (Below.refl _ _) rfl
    | 4, _ =>
    obtain rfl := Option.some.inj hoq
    intro a1 w1 K hk hK
    have e0 : a1.tmps.getD 0 undef = .slice (some ⟨b, o, none⟩) 1 c := hk.same 0 (by simp)
    simp [Region.wanted, Oper.wp, Act.eval, go_sem, e0, k0, k1, hbl, hbn]
    exact hK _ _ (Below.refl _ _) rfl
    | 5, _ =>
    obtain rfl := Option.some.inj hoq
    intro a1 w1 K hk hK
    have d13 : a1.tmps.getD 13 undef = .slice (some ⟨b, o, none⟩) 1 c := hk.deps ⟨4, .data⟩ (by simp) rfl _ _ rfl rfl
    simp [Region.wanted, Oper.wp, Act.eval, go_sem, d13, k0, k1, hbl, hbn]
    exact hK _ _ (Below.refl _ _) rfl
    | 6, _ =>
    obtain rfl := Option.some.inj hoq
    intro a1 w1 K hk hK
    have d14 : a1.tmps.getD 14 undef = .pointer (some ⟨b, o, none⟩) := hk.deps ⟨5, .data⟩ (by simp) rfl _ _ rfl rfl
    simp [Region.wanted, Oper.wp, Act.eval, go_sem, d14, k0, k1, hbl, hbn]
    exact hK _ _ (Below.refl _ _) rfl
    | 7, _ =>
    obtain rfl := Option.some.inj hoq
    intro a1 w1 K hk hK
    have d15 : a1.tmps.getD 15 undef = .pointer (some ⟨b, o + 1, none⟩) := hk.deps ⟨6, .data⟩ (by simp) rfl _ _ rfl rfl
    have c0 : w1.cell? ⟨b, o, none⟩ = some (.slice A9 n9 c9) := Below.keeps hk.ext _ _ (by simp [go_sem, k0, k1, hbl, hbn])
    have c1 : w1.cell? ⟨b, o + 1, none⟩ = some (.int .u64 (e.v : Nat)) := Below.keeps hk.ext _ _ (by simp [go_sem, k0, k1, hbl, hbn])
    simp [Region.wanted, Oper.wp, Act.eval, go_sem, d15, c0, c1, k0, k1, hbl, hbn]
    exact hK _ _ (Below.refl _ _) rfl
    | 8, _ =>
    obtain rfl := Option.some.inj hoq
    intro a1 w1 K hk hK
    have d12 : a1.tmps.getD 12 undef = .slice A9 n9 c9 := hk.deps ⟨3, .data⟩ (by simp) rfl _ _ rfl rfl
    have d12x : a1.tmps[12]?.getD undef = .slice A9 n9 c9 := by rw [← d12]; simp
    have d16 : a1.tmps.getD 16 undef = .int .u64 (e.v : Nat) := hk.deps ⟨7, .data⟩ (by simp) rfl _ _ rfl rfl
    have d16x : a1.tmps[16]?.getD undef = .int .u64 (e.v : Nat) := by rw [← d16]; simp
    simp [Region.wanted, Oper.wp, Act.eval, go_sem, d12, d12x, d16, d16x, k0, k1, hbl, hbn]
    exact hK _ _ (Below.refl _ _) rfl
  · intro vs w3 hl hb3 hv
    match vs, hl with
    | [v0, v1, v2, v3, v4, v5, v6, v7, v8], _ =>
    obtain rfl : v0 = .slice (some ⟨b, o, none⟩) 1 c := hv 0 (by omega)
    obtain rfl : v1 = .pointer (some ⟨b, o, none⟩) := hv 1 (by omega)
    obtain rfl : v2 = .pointer (some ⟨b, o, none⟩) := hv 2 (by omega)
    obtain rfl : v3 = .slice A9 n9 c9 := hv 3 (by omega)
    obtain rfl : v4 = .slice (some ⟨b, o, none⟩) 1 c := hv 4 (by omega)
    obtain rfl : v5 = .pointer (some ⟨b, o, none⟩) := hv 5 (by omega)
    obtain rfl : v6 = .pointer (some ⟨b, o + 1, none⟩) := hv 6 (by omega)
    obtain rfl : v7 = .int .u64 (e.v : Nat) := hv 7 (by omega)
    obtain rfl : v8 = .agg #[.int .i64 (-1), .slice A9 n9 c9, .slice none 0 0, .bool false, .int .u64 (e.v : Nat)] := hv 8 (by omega)
    clear hv
    simp only [putAll, List.take_succ_cons, List.take_zero, List.drop_succ_cons, List.drop_zero, Act.put, List.setIfInBounds_toArray, List.set_cons_succ, List.set_cons_zero]
    have hb4 : Below w.heap.size w w3 := below_trans (by repeat (first | exact Below.refl _ _ | (refine Below.drew ?_) | (refine below_drewN' ?_ _) | (refine below_alloc' ?_ _) | (refine Below.setCell ?_ (by first | exact Nat.le_refl _ | (simp; done) | (simp; omega)) _))) hb3
    have hblk : w3.heap[w.heap.size]? = some (.cells #[.int .i64 0, .slice none 0 0, .slice none 0 0, .bool false, .int .u64 0] 115 (0, 0)) := (hb3.block _ (by simp)).trans (by show (w.heap.push _)[w.heap.size]? = _; simp)
    have j0 : w3.cell? ⟨w.heap.size, 0, none⟩ = some (.int .i64 0) := by simp only [World.cell?, hblk]; simp
    have j1 : w3.cell? ⟨w.heap.size, 1, none⟩ = some (.slice none 0 0) := by simp only [World.cell?, hblk]; simp
    have j2 : w3.cell? ⟨w.heap.size, 2, none⟩ = some (.slice none 0 0) := by simp only [World.cell?, hblk]; simp
    have j3 : w3.cell? ⟨w.heap.size, 3, none⟩ = some (.bool false) := by simp only [World.cell?, hblk]; simp
    have j4 : w3.cell? ⟨w.heap.size, 4, none⟩ = some (.int .u64 0) := by simp only [World.cell?, hblk]; simp
    have f0 : w3.frozen? ⟨w.heap.size, 0, none⟩ = false := by simp [World.frozen?, hblk]
    have f1 : w3.frozen? ⟨w.heap.size, 1, none⟩ = false := by simp [World.frozen?, hblk]
    have f2 : w3.frozen? ⟨w.heap.size, 2, none⟩ = false := by simp [World.frozen?, hblk]
    have f3 : w3.frozen? ⟨w.heap.size, 3, none⟩ = false := by simp [World.frozen?, hblk]
    have f4 : w3.frozen? ⟨w.heap.size, 4, none⟩ = false := by simp [World.frozen?, hblk]
    have hlt := kr_lt hblk
    have HB4 := Lib.hid hb4
    clear hb3 hb4 hblk
    go_wp2_with fail
    refine bodyPost_ret (v := .agg #[.int .i64 (-1), .slice A9 n9 c9, .slice none 0 0, .bool false, .int .u64 (e.v : Nat)]) (by simp [results, Tryz.results108, go_sem, j0, j1, j2, j3, j4]) rfl ?_
    exact ⟨_, rfl, ⟨_, _, rfl, .inl HU.out, World.ownsRow_nil _ _ _ _⟩, (by repeat (first | exact HB4.out | (refine Below.drew ?_) | (refine below_drewN' ?_ _) | (refine below_alloc' ?_ _) | (refine Below.setCell ?_ (by first | exact Nat.le_refl _ | (have := HB4.out.size; simp; omega) | (have := HB4.out.size; omega)) _)))⟩
end Go.Proofs.YtjokcagggmjgmaaGreat
/-! RefT -/
namespace Go.Proofs.YtjokcagggmjgmaaGreat
open Go.RowKit
set_option linter.unusedVariables false
set_option linter.unusedSimpArgs false
set_option maxRecDepth 100000

def plV (ks : List (Nat × List En)) (j : Nat) : List Value := ((ks.map (·.1)).take j).map fun (x : Nat) => Value.int .i64 (x : Nat)
theorem plV_len (ks : List (Nat × List En)) (j : Nat) (h : j ≤ ks.length) : (plV ks j).length = j := by unfold plV; rw [List.length_map, List.length_take, List.length_map]; omega
theorem plV_succ (ks : List (Nat × List En)) (j : Nat) (h : j < ks.length) : plV ks (j + 1) = plV ks j ++ [.int .i64 (ks[j].1 : Nat)] := by
  unfold plV
  rw [← List.take_append_getElem (by rw [List.length_map]; exact h), List.map_append, List.getElem_map]; rfl
/-- the shape that is being filled -/
structure SIv (w wr : World) (B n j : Nat) (U KV : Value) (pre : List Nat) (vs : List Value) (ks : List (Nat × List En)) : Prop where
  blk : ∃ pv, wr.heap[B]? = some (.cells #[.int .i64 (n : Nat), U, pv, .bool false, .int .u64 0] 115 (0, 0)) ∧ OwnV 3 w wr pv (plV ks j)
  u : OwnV 49 w wr U ((pti pre).map (Value.int .u64))
  kv : OwnV 28 w wr KV vs
  bel : Below w.heap.size w wr
  res : wr.heap[w.heap.size]? = some (.cells #[.int .i64 0, .slice none 0 0, .slice none 0 0, .bool false, .int .u64 0] 115 (0, 0))
theorem OwnV.cellsAt {t : TypeId} {W w : World} {g n c : Nat} {l : List Value} (h : OwnV t W w (.slice (some ⟨g, 0, none⟩) n c) l) (h0 : l ≠ []) : ∀ j (hj : j < l.length), w.cell? ⟨g, j, none⟩ = some l[j] := by
  obtain ⟨g', n', e, _, hc⟩ := h.cells h0
  injection e with e _ _
  injection e with e
  injection e with e _ _
  subst e
  exact hc
def ShB (w : World) (g : Nat) : Prop := ∃ cur fr, w.heap[g]? = some (.cells cur 115 fr)
theorem ShB.set {w : World} {g g' j : Nat} {x : Value} (h : ShB w g) : ShB (w.setCell ⟨g', j, none⟩ x) g := by
  obtain ⟨cur, fr, h⟩ := h
  by_cases e : g = g'
  · subst e; exact ⟨_, _, kr_set h⟩
  · exact ⟨_, _, (kr_far e).trans h⟩
theorem OwnV.setS {T : TypeId} {W w : World} {u x : Value} {l : List Value} {g j : Nat} (h : OwnV T W w u l) (hg : ShB w g) (ht : 115 ≠ T) : OwnV T W (w.setCell ⟨g, j, none⟩ x) u l := by
  obtain ⟨cur, fr, hg⟩ := hg
  exact h.set hg ht
theorem OwnV.setS6 {T : TypeId} {W w : World} {u x x0 x1 x2 x3 x4 : Value} {l : List Value} {B R : Nat} (h : OwnV T W w u l) (hb : ShB w B) (hr : ShB w R) (ht : 115 ≠ T) :
    OwnV T W ((((((w.setCell ⟨B, 3, none⟩ x).setCell ⟨R, 0, none⟩ x0).setCell ⟨R, 1, none⟩ x1).setCell ⟨R, 2, none⟩ x2).setCell ⟨R, 3, none⟩ x3).setCell ⟨R, 4, none⟩ x4) u l :=
  (((((h.setS hb ht).setS hr.set ht).setS hr.set.set ht).setS hr.set.set.set ht).setS hr.set.set.set.set ht).setS hr.set.set.set.set.set ht
theorem plV_all (ks : List (Nat × List En)) : plV ks ks.length = (ks.map (·.1)).map fun (x : Nat) => Value.int .i64 (x : Nat) := by
  unfold plV; rw [List.take_of_length_le (by rw [List.length_map]; exact Nat.le_refl _)]
set_option maxHeartbeats 4000000 in
theorem rShape_more (W0 w : World) (k n : Nat) (pre : List Nat) (ks : List (Nat × List En)) (v : Value) (hk : Kd k n pre ks) (hv : RdE w v (cat ks)) (he : EtS k (cat ks)) :
    Calls Tryz.prog 108 #[v] w fun e' w' => ShRP W0 w (shL (cat ks)) e' w' := by
  have h2 := hk.two_le
  have hl0 : 0 < (cat ks).length := by omega
  have hsh := hk.sh
  have HKD := Lib.hid (fun w' (hb : Below w.heap.size w w') => rKids_any k n (cat ks) v w w' hv hb he hk.lev hl0)
  rw [hk.kids] at HKD
  have HLV := Lib.hid (fun w' (hb : Below w.heap.size w w') => rLevel_any k (cat ks) v w' (hv.below hb) he hl0)
  rw [hk.lev, show ((n + 1 : Nat) : Int) - 1 = n by omega] at HLV
  have HV := Lib.hid hv
  have hkk := he.k40
  obtain ⟨A, lc, rfl, hz1, hx⟩ := hv
  obtain ⟨lb, lo, rfl, hc⟩ := hx hl0
  obtain ⟨u, k0, ku, hz2⟩ := hc 0 hl0
  simp only [Nat.zero_mul, Nat.add_zero] at k0 ku
  have hm0 : (cat ks)[0] ∈ cat ks := List.getElem_mem hl0
  have hcut := hk.cat_pre hm0
  have hl40 := he.et.len _ hm0
  have HCT := Lib.hid (fun w' (hb : Below w.heap.size w w') => rCut_any (cat ks)[0].p (n + 1) u w' (ku.below hb) (by rw [hl40]; exact hkk) (he.et.ok _ hm0) (by have := hk.n64; omega))
  rw [hcut, show ((n + 1 : Nat) : Int) - 1 = n by omega] at HCT
  have HDN := Lib.hid (fun w' => rDense_any k ks.length w' hkk (by
    have h1 := (cat_length ks hk.ne).1
    have := he.short
    omega))
  have HSH := Lib.hid hsh
  have HPL := Lib.hid (hk.preLen)
  have HKS := Lib.hid (And.intro hk (And.intro he.short hkk))
  have hlb : lb < w.heap.size := World.block_lt_of_cell? w _ k0
  have hz0 : (0 : Int) < ((cat ks).length : Int) := by omega
  obtain ⟨AU, cU, rfl, hz3⟩ := RdU.point ku
  obtain ⟨nU, hnU⟩ : ∃ nU, (cat ks)[0].p.length = nU := ⟨_, rfl⟩
  rw [hl40] at hnU
  subst hnU
  rw [hl40] at k0 HCT
  have h1f : (((cat ks).length : Int) == 1) = false := by simp; omega
  have hn2 : ks.length ≤ 1000 := by have h1 := (cat_length ks hk.ne).1; have := he.short; omega
  have HN2 := Lib.hid (And.intro hn2 hk.two)
  have HK0 := Lib.hid (And.intro k0 (And.intro hz0 hlb))
  clear hsh hz1 hz2 hz3 hx hc ku hm0 hcut hl40 hk he hkk h2 hn2
  generalize cat ks = l at *
  go_enter Tryz.func108, Tryz.ntmps108
  go_wp2_with fail
  refine wp_region_vals 11 [fun z9 _ => z9 = .slice (some ⟨lb, lo, none⟩) l.length lc,
    fun z9 _ => z9 = .int .i64 (n : Nat),
    fun z9 _ => z9 = .slice (some ⟨lb, lo, none⟩) l.length lc,
    fun z9 _ => z9 = .pointer (some ⟨lb, lo, none⟩),
    fun z9 _ => z9 = .pointer (some ⟨lb, lo, none⟩),
    fun z9 _ => z9 = .slice AU k cU,
    fun z9 _ => z9 = .slice (some ⟨lb, lo, none⟩) l.length lc,
    fun z9 _ => z9 = .int .i64 (n : Nat),
    fun v9 w9 => OwnV 49 w w9 v9 ((pti pre).map (Value.int .u64)),
    fun v9 w9 => ∃ u9, v9 = .agg #[.int .i64 (n : Nat), u9, .slice none 0 0, .bool false, .int .u64 0] ∧ OwnV 49 w w9 u9 ((pti pre).map (Value.int .u64)),
    fun v9 w9 => ∃ B, v9 = .pointer (some ⟨B, 0, none⟩) ∧ w.heap.size < B ∧ w9.heap[B]? = some (.cells #[.int .i64 0, .slice none 0 0, .slice none 0 0, .bool false, .int .u64 0] 115 (0, 0))]
    (by kernel_rfl) (by kernel_rfl) (by kernel_rfl) (by kernel_rfl) ?_ ?_ ?_
  · intro V hV v w1 w2 h hb
    simp only [List.mem_cons, List.not_mem_nil, or_false] at hV
    rcases hV with rfl | rfl | rfl | rfl | rfl | rfl | rfl | rfl | rfl | rfl | rfl
    all_goals first | exact h | (first | exact OwnV.below h hb | (obtain ⟨u, h1, h2⟩ := h; exact ⟨u, h1, h2.below hb⟩) | (obtain ⟨B, h1, h2, h3⟩ := h; exact ⟨B, h1, h2, (hb.block B (kr_lt h3)).trans h3⟩))
  · intro iq oq hiq hoq
    match iq, hiq with
    | 0, _ =>
    obtain rfl := Option.some.inj hoq
    intro a1 w1 K hk hK
    have e0 : a1.tmps.getD 0 undef = .slice (some ⟨lb, lo, none⟩) l.length lc := hk.same 0 (by simp)
    simp [Region.wanted, Oper.wp, Act.eval, go_sem, e0, k0, hlb, hz0, hl0]
    exact hK _ _ (Below.refl _ _) rfl
    | 1, _ =>
    obtain rfl := Option.some.inj hoq
    intro a1 w1 K hk hK
    have d18 : a1.tmps.getD 18 undef = .slice (some ⟨lb, lo, none⟩) l.length lc := hk.deps ⟨0, .data⟩ (by simp) rfl _ _ rfl rfl
    simp [Region.wanted, Oper.wp, Act.eval, go_sem, d18, k0, hlb, hz0, hl0]
    refine (HLV.out _ (below_trans (by repeat (first | exact Below.refl _ _ | (refine Below.drew ?_) | (refine below_drewN' ?_ _) | (refine below_alloc' ?_ _) | (refine Below.setCell ?_ (by first | exact Nat.le_refl _ | (simp; done) | (simp; omega)) _))) hk.ext)).mono ?_
    rintro e w9 ⟨rfl, hb9⟩
    exact hK _ _ hb9 rfl
    | 2, _ =>
    obtain rfl := Option.some.inj hoq
    intro a1 w1 K hk hK
    have e0 : a1.tmps.getD 0 undef = .slice (some ⟨lb, lo, none⟩) l.length lc := hk.same 0 (by simp)
    simp [Region.wanted, Oper.wp, Act.eval, go_sem, e0, k0, hlb, hz0, hl0]
    exact hK _ _ (Below.refl _ _) rfl
    | 3, _ =>
    obtain rfl := Option.some.inj hoq
    intro a1 w1 K hk hK
    have d20 : a1.tmps.getD 20 undef = .slice (some ⟨lb, lo, none⟩) l.length lc := hk.deps ⟨2, .data⟩ (by simp) rfl _ _ rfl rfl
    simp [Region.wanted, Oper.wp, Act.eval, go_sem, d20, k0, hlb, hz0, hl0]
    exact hK _ _ (Below.refl _ _) rfl
    | 4, _ =>
    obtain rfl := Option.some.inj hoq
    intro a1 w1 K hk hK
    have d21 : a1.tmps.getD 21 undef = .pointer (some ⟨lb, lo, none⟩) := hk.deps ⟨3, .data⟩ (by simp) rfl _ _ rfl rfl
    simp [Region.wanted, Oper.wp, Act.eval, go_sem, d21, k0, hlb, hz0, hl0]
    exact hK _ _ (Below.refl _ _) rfl
    | 5, _ =>
    obtain rfl := Option.some.inj hoq
    intro a1 w1 K hk hK
    have d22 : a1.tmps.getD 22 undef = .pointer (some ⟨lb, lo, none⟩) := hk.deps ⟨4, .data⟩ (by simp) rfl _ _ rfl rfl
    have c0 : w1.cell? ⟨lb, lo, none⟩ = some (.slice AU k cU) := Below.keeps hk.ext _ _ (by simp [go_sem, k0, hlb, hz0, hl0])
    simp [Region.wanted, Oper.wp, Act.eval, go_sem, d22, c0, k0, hlb, hz0, hl0]
    exact hK _ _ (Below.refl _ _) rfl
    | 6, _ =>
    obtain rfl := Option.some.inj hoq
    intro a1 w1 K hk hK
    have e0 : a1.tmps.getD 0 undef = .slice (some ⟨lb, lo, none⟩) l.length lc := hk.same 0 (by simp)
    simp [Region.wanted, Oper.wp, Act.eval, go_sem, e0, k0, hlb, hz0, hl0]
    exact hK _ _ (Below.refl _ _) rfl
    | 7, _ =>
    obtain rfl := Option.some.inj hoq
    intro a1 w1 K hk hK
    have d24 : a1.tmps.getD 24 undef = .slice (some ⟨lb, lo, none⟩) l.length lc := hk.deps ⟨6, .data⟩ (by simp) rfl _ _ rfl rfl
    simp [Region.wanted, Oper.wp, Act.eval, go_sem, d24, k0, hlb, hz0, hl0]
    refine (HLV.out _ (below_trans (by repeat (first | exact Below.refl _ _ | (refine Below.drew ?_) | (refine below_drewN' ?_ _) | (refine below_alloc' ?_ _) | (refine Below.setCell ?_ (by first | exact Nat.le_refl _ | (simp; done) | (simp; omega)) _))) hk.ext)).mono ?_
    rintro e w9 ⟨rfl, hb9⟩
    exact hK _ _ hb9 rfl
    | 8, _ =>
    obtain rfl := Option.some.inj hoq
    intro a1 w1 K hk hK
    have d23 : a1.tmps.getD 23 undef = .slice AU k cU := hk.deps ⟨5, .data⟩ (by simp) rfl _ _ rfl rfl
    have d25 : a1.tmps.getD 25 undef = .int .i64 (n : Nat) := hk.deps ⟨7, .data⟩ (by simp) rfl _ _ rfl rfl
    simp [Region.wanted, Oper.wp, Act.eval, go_sem, d23, d25, k0, hlb, hz0, hl0]
    refine (HCT.out _ (below_trans (by repeat (first | exact Below.refl _ _ | (refine Below.drew ?_) | (refine below_drewN' ?_ _) | (refine below_alloc' ?_ _) | (refine Below.setCell ?_ (by first | exact Nat.le_refl _ | (simp; done) | (simp; omega)) _))) hk.ext)).mono ?_
    rintro e w9 ⟨v9, rfl, h9, hb9⟩
    exact hK _ _ hb9 (h9.base (Nat.le_trans (by simp) (below_trans (by repeat (first | exact Below.refl _ _ | (refine Below.drew ?_) | (refine below_drewN' ?_ _) | (refine below_alloc' ?_ _) | (refine Below.setCell ?_ (by first | exact Nat.le_refl _ | (simp; done) | (simp; omega)) _))) hk.ext : Below w.heap.size w _).size))
    | 9, _ =>
    obtain rfl := Option.some.inj hoq
    intro a1 w1 K hk hK
    have d19 : a1.tmps.getD 19 undef = .int .i64 (n : Nat) := hk.deps ⟨1, .data⟩ (by simp) rfl _ _ rfl rfl
    have d19x : a1.tmps[19]?.getD undef = .int .i64 (n : Nat) := by rw [← d19]; simp
    have D26 : OwnV 49 w w1 (a1.tmps.getD 26 undef) ((pti pre).map (Value.int .u64)) := hk.deps ⟨8, .data⟩ (by simp) rfl _ _ rfl rfl
    obtain ⟨A9, c9, e26⟩ := OwnV.shape D26
    have e26x : a1.tmps[26]?.getD undef = .slice A9 ((pti pre).map (Value.int .u64)).length c9 := by rw [← e26]; simp
    rw [e26] at D26
    have d19x : a1.tmps[19]?.getD undef = .int .i64 (n : Nat) := by rw [← d19]; simp
    simp [Region.wanted, Oper.wp, Act.eval, go_sem, e26, e26x, d19, d19x]
    exact hK _ _ (Below.refl _ _) ⟨_, rfl, by simpa using D26⟩
    | 10, _ =>
    obtain rfl := Option.some.inj hoq
    intro a1 w1 K hk hK
    simp [Region.wanted, Oper.wp, Act.eval, go_sem, k0, hlb, hz0, hl0]
    refine hK _ _ (below_alloc' (Below.refl _ _) _) ⟨_, rfl, (by have := hk.ext.size; simp at this; omega), ?_⟩
    exact alloc_blk _ _
  · intro vs w3 hl hb3 hv
    match vs, hl with
    | [v0, v1, v2, v3, v4, v5, v6, v7, v8, v9, v10], _ =>
    obtain rfl : v0 = .slice (some ⟨lb, lo, none⟩) l.length lc := hv 0 (by omega)
    obtain rfl : v1 = .int .i64 (n : Nat) := hv 1 (by omega)
    obtain rfl : v2 = .slice (some ⟨lb, lo, none⟩) l.length lc := hv 2 (by omega)
    obtain rfl : v3 = .pointer (some ⟨lb, lo, none⟩) := hv 3 (by omega)
    obtain rfl : v4 = .pointer (some ⟨lb, lo, none⟩) := hv 4 (by omega)
    obtain rfl : v5 = .slice AU k cU := hv 5 (by omega)
    obtain rfl : v6 = .slice (some ⟨lb, lo, none⟩) l.length lc := hv 6 (by omega)
    obtain rfl : v7 = .int .i64 (n : Nat) := hv 7 (by omega)
    have q8 : OwnV 49 w w3 v8 ((pti pre).map (Value.int .u64)) := hv 8 (by omega)
    have q9 : ∃ u9, v9 = .agg #[.int .i64 (n : Nat), u9, .slice none 0 0, .bool false, .int .u64 0] ∧ OwnV 49 w w3 u9 ((pti pre).map (Value.int .u64)) := hv 9 (by omega)
    have q10 : ∃ B, v10 = .pointer (some ⟨B, 0, none⟩) ∧ w.heap.size < B ∧ w3.heap[B]? = some (.cells #[.int .i64 0, .slice none 0 0, .slice none 0 0, .bool false, .int .u64 0] 115 (0, 0)) := hv 10 (by omega)
    clear hv
    simp only [putAll, List.take_succ_cons, List.take_zero, List.drop_succ_cons, List.drop_zero, Act.put, List.setIfInBounds_toArray, List.set_cons_succ, List.set_cons_zero]
    clear q8
    obtain ⟨U, rfl, hU⟩ := q9
    obtain ⟨B, rfl, hBw', hBk⟩ := q10
    have hBw := Nat.le_of_lt hBw'
    have hrs : w3.heap[w.heap.size]? = some (.cells #[.int .i64 0, .slice none 0 0, .slice none 0 0, .bool false, .int .u64 0] 115 (0, 0)) := (hb3.block _ (by simp)).trans (by show (w.heap.push _)[w.heap.size]? = _; simp)
    have hb4 : Below w.heap.size w w3 := below_trans (by repeat (first | exact Below.refl _ _ | (refine Below.drew ?_) | (refine below_drewN' ?_ _) | (refine below_alloc' ?_ _) | (refine Below.setCell ?_ (by first | exact Nat.le_refl _ | (simp; done) | (simp; omega)) _))) hb3
    obtain ⟨AU2, cU2, hUe⟩ := hU.shape
    have hplen : ((pti pre).map (Value.int .u64)).length = k := by unfold pti; rw [List.length_map, List.length_map]; exact HPL.out.1
    rw [hplen] at hUe
    subst hUe
    have j0 : w3.cell? ⟨B, 0, none⟩ = some (.int .i64 0) := by simp only [World.cell?, hBk]; simp
    have j1 : w3.cell? ⟨B, 1, none⟩ = some (.slice none 0 0) := by simp only [World.cell?, hBk]; simp
    have j2 : w3.cell? ⟨B, 2, none⟩ = some (.slice none 0 0) := by simp only [World.cell?, hBk]; simp
    have j3 : w3.cell? ⟨B, 3, none⟩ = some (.bool false) := by simp only [World.cell?, hBk]; simp
    have j4 : w3.cell? ⟨B, 4, none⟩ = some (.int .u64 0) := by simp only [World.cell?, hBk]; simp
    have f0 : w3.frozen? ⟨B, 0, none⟩ = false := by simp [World.frozen?, hBk]
    have f1 : w3.frozen? ⟨B, 1, none⟩ = false := by simp [World.frozen?, hBk]
    have f2 : w3.frozen? ⟨B, 2, none⟩ = false := by simp [World.frozen?, hBk]
    have f3 : w3.frozen? ⟨B, 3, none⟩ = false := by simp [World.frozen?, hBk]
    have f4 : w3.frozen? ⟨B, 4, none⟩ = false := by simp [World.frozen?, hBk]
    have hlt := kr_lt hBk
    have s0 := kr_set (k := 0) (u := .int .i64 (n : Nat)) hBk
    have s1 := kr_set (k := 1) (u := .slice AU2 k cU2) s0
    have s2 := kr_set (k := 2) (u := .slice none 0 0) s1
    have s3 := kr_set (k := 3) (u := .bool false) s2
    have s4 := kr_set (k := 4) (u := .int .u64 0) s3
    have hset := ((((hU.set (j := 0) (x := .int .i64 (n : Nat)) hBk (by decide)).set (j := 1) (x := .slice AU2 k cU2) s0 (by decide)).set (j := 2) (x := .slice none 0 0) s1 (by decide)).set (j := 3) (x := .bool false) s2 (by decide)).set (j := 4) (x := .int .u64 0) s3 (by decide)
    have hbb := ((((hb4.setCell (p := ⟨B, 0, none⟩) hBw (.int .i64 (n : Nat))).setCell (p := ⟨B, 1, none⟩) hBw (.slice AU2 k cU2)).setCell (p := ⟨B, 2, none⟩) hBw (.slice none 0 0)).setCell (p := ⟨B, 3, none⟩) hBw (.bool false)).setCell (p := ⟨B, 4, none⟩) hBw (.int .u64 0)
    have HF := Lib.hid (And.intro hset (And.intro hbb (And.intro s4 hBw)))
    have hrs5 := (kr_far (k := 4) (u := .int .u64 0) (Nat.ne_of_lt hBw')).trans ((kr_far (k := 3) (u := .bool false) (Nat.ne_of_lt hBw')).trans ((kr_far (k := 2) (u := .slice none 0 0) (Nat.ne_of_lt hBw')).trans ((kr_far (k := 1) (u := .slice AU2 k cU2) (Nat.ne_of_lt hBw')).trans ((kr_far (w := w3) (k := 0) (u := .int .i64 (n : Nat)) (Nat.ne_of_lt hBw')).trans hrs))))
    have HRS := Lib.hid (And.intro hrs5 hBw')
    clear hrs hrs5 hBw'
    clear hU hset hbb hb3 hb4 hBk s0 s1 s2 s3 s4 hBw hplen
    go_wp2_with fail
    refine (HKD.out _ HF.out.2.1).mono ?_
    rintro e w4 ⟨kv, rfl, ⟨kvs, hkv, hvl, hvs⟩, hb5⟩
    rw [List.length_map] at hvl
    have HS := Lib.hid (show SIv w w4 B n 0 (.slice AU2 k cU2) kv pre kvs ks from ⟨⟨.slice none 0 0, (hb5.block B (kr_lt HF.out.2.2.1)).trans HF.out.2.2.1, World.ownsRow_nil _ _ _ _⟩, HF.out.1.below hb5, hkv.base HF.out.2.1.size, HF.out.2.1.trans (hb5.mono HF.out.2.1.size), (hb5.block _ (kr_lt HRS.out.1)).trans HRS.out.1⟩)
    obtain ⟨gk, ck, rfl, hgk, hcv⟩ := hkv.cells (by intro h; rw [h] at hvl; have := HN2.out.2; simp at hvl; omega)
    have HVS := Lib.hid (And.intro hvl hvs)
    rw [hvl] at HS ⊢
    clear hkv hgk hcv hb5 hvs hvl
    go_wp2_with fail
    go_loopw [5] (fun iv wr => ∃ j : Nat, j ≤ ks.length ∧ iv = .int .i64 (j : Nat) ∧ SIv w wr B n j (.slice AU2 k cU2) (.slice (some ⟨gk, 0, none⟩) ks.length ck) pre kvs ks) (fun iv _ => ks.length - (intOf iv).toNat)
    case atStart => exact ⟨0, Nat.zero_le _, rfl, HS.out⟩
    case round =>
      obtain ⟨j, hj, rfl, hI⟩ := hrel
      have HI := Lib.hid hI
      by_cases hlt : j < ks.length
      · have h3 : (j : Int) < (ks.length : Int) := by omega
        have h5 : (0 : Int) ≤ (j : Int) := by omega
        have HW := Lib.hid (show wrap64 ((j : Int) + 1) = ((j + 1 : Nat) : Int) by have := HN2.out.1; unfold wrap64; omega)
        have hvl := HVS.out.1
        have kj := hI.kv.cellsAt (by intro h; rw [h] at hvl; simp at hvl; omega) j (by omega)
        have hr := HVS.out.2 j (by omega) (by rw [List.length_map]; exact hlt)
        rw [List.getElem_map] at hr
        have hx := List.getElem_mem hlt
        have hne := HKS.out.1.ne _ hx
        have hkl : 0 < (ks[j]).2.length := List.length_pos_iff.2 hne
        obtain ⟨A9, ck9, ev, zz2, hcc⟩ := hr
        obtain ⟨kb9, ko9, rfl, hc9⟩ := hcc hkl
        obtain ⟨u9, pu, hu9, zz3⟩ := hc9 0 hkl
        simp only [Nat.zero_mul, Nat.add_zero] at pu hu9
        replace pu := Below.keeps hI.bel _ _ pu
        rw [ev] at kj
        have hm9 : (ks[j]).2[0] ∈ (ks[j]).2 := List.getElem_mem hkl
        have had := HKS.out.1.adr _ hx _ hm9
        have HAD := Lib.hid (fun w' (hb : Below wr.heap.size wr w') => rAddr_any (ks[j]).2[0].p n u9 w' ((hu9.below hI.bel).below hb) (by rw [(HKS.out.1.et _ hx).len _ hm9]; exact HKS.out.2.2) ((HKS.out.1.et _ hx).ok _ hm9) HKS.out.1.n64)
        rw [had] at HAD
        have HPS := Lib.hid (plV_succ ks j hlt)
        have hnk0 := hkl
        obtain ⟨AU9, cU9, rfl, zz⟩ := RdU.point hu9
        obtain ⟨pv, hBk, hpv⟩ := hI.blk
        obtain ⟨AP, cP, e8⟩ := hpv.shape
        rw [plV_len ks j hj] at e8
        subst e8
        have x0 : wr.cell? ⟨B, 0, none⟩ = some (.int .i64 (n : Nat)) := by simp only [World.cell?, hBk]; simp
        have x2 : wr.cell? ⟨B, 2, none⟩ = some (.slice AP j cP) := by simp only [World.cell?, hBk]; simp
        have hlB := kr_lt hBk
        have hlg : gk < wr.heap.size := World.block_lt_of_cell? wr _ kj
        have hlk : kb9 < wr.heap.size := World.block_lt_of_cell? wr _ pu
        have HPV := Lib.hid (And.intro hBk hpv)
        clear zz zz2 zz3 hvl hx hne hcc hc9 hu9 hm9 had hBk hpv hI ev
        generalize (ks[j]).2[0].p.length = nU9 at *
        generalize (ks[j]).2.length = nk9 at *
        generalize (ks[j]).1 = ad at *
        go_wp2_with fail
        refine wp_region_vals 13 [fun z9 _ => z9 = .pointer (some ⟨B, 2, none⟩),
          fun z9 _ => z9 = .slice AP j cP,
          fun z9 _ => z9 = .slice (some ⟨gk, 0, none⟩) ks.length ck,
          fun z9 _ => z9 = .int .i64 (j : Nat),
          fun z9 _ => z9 = .pointer (some ⟨gk, j, none⟩),
          fun z9 _ => z9 = .slice (some ⟨kb9, ko9, none⟩) nk9 ck9,
          fun z9 _ => z9 = .pointer (some ⟨kb9, ko9, none⟩),
          fun z9 _ => z9 = .pointer (some ⟨kb9, ko9, none⟩),
          fun z9 _ => z9 = .slice AU9 nU9 cU9,
          fun z9 _ => z9 = .pointer (some ⟨B, 0, none⟩),
          fun z9 _ => z9 = .int .i64 (n : Nat),
          fun z9 _ => z9 = .int .i64 (ad : Nat),
          fun v9 w9 => ∃ g9, v9 = .slice (some ⟨g9, 0, none⟩) 1 1 ∧ w9.cell? ⟨g9, 0, none⟩ = some (.int .i64 (ad : Nat))]
          (by kernel_rfl) (by kernel_rfl) (by kernel_rfl) (by kernel_rfl) ?_ ?_ ?_
        · intro V hV v w1 w2 h hb
          simp only [List.mem_cons, List.not_mem_nil, or_false] at hV
          rcases hV with rfl | rfl | rfl | rfl | rfl | rfl | rfl | rfl | rfl | rfl | rfl | rfl | rfl
          all_goals first | exact h | (first | exact h | (obtain ⟨g9, h1, h2⟩ := h; exact ⟨g9, h1, Below.keeps hb _ _ h2⟩))
        · intro iq oq hiq hoq
          match iq, hiq with
          | 0, _ =>
          obtain rfl := Option.some.inj hoq
          intro a1 w1 K hk hK
          have e3 : a1.tmps.getD 3 undef = .pointer (some ⟨B, 0, none⟩) := hk.same 3 (by simp)
          simp [Region.wanted, Oper.wp, Act.eval, go_sem, e3, x0, x2, kj, pu, hlB, hlg, hlk, h3, h5, hnk0]
          exact hK _ _ (Below.refl _ _) rfl
          | 1, _ =>
          obtain rfl := Option.some.inj hoq
          intro a1 w1 K hk hK
          have d36 : a1.tmps.getD 36 undef = .pointer (some ⟨B, 2, none⟩) := hk.deps ⟨0, .data⟩ (by simp) rfl _ _ rfl rfl
          have c0 : w1.cell? ⟨B, 2, none⟩ = some (.slice AP j cP) := Below.keeps hk.ext _ _ (by simp [go_sem, x0, x2, kj, pu, hlB, hlg, hlk, h3, h5, hnk0])
          have c1 : w1.cell? ⟨gk, j, none⟩ = some (.slice (some ⟨kb9, ko9, none⟩) nk9 ck9) := Below.keeps hk.ext _ _ (by simp [go_sem, x0, x2, kj, pu, hlB, hlg, hlk, h3, h5, hnk0])
          have c2 : w1.cell? ⟨kb9, ko9, none⟩ = some (.slice AU9 nU9 cU9) := Below.keeps hk.ext _ _ (by simp [go_sem, x0, x2, kj, pu, hlB, hlg, hlk, h3, h5, hnk0])
          have c3 : w1.cell? ⟨B, 0, none⟩ = some (.int .i64 (n : Nat)) := Below.keeps hk.ext _ _ (by simp [go_sem, x0, x2, kj, pu, hlB, hlg, hlk, h3, h5, hnk0])
          simp [Region.wanted, Oper.wp, Act.eval, go_sem, d36, c0, c1, c2, c3, x0, x2, kj, pu, hlB, hlg, hlk, h3, h5, hnk0]
          exact hK _ _ (Below.refl _ _) rfl
          | 2, _ =>
          obtain rfl := Option.some.inj hoq
          intro a1 w1 K hk hK
          have e4 : a1.tmps.getD 4 undef = .slice (some ⟨gk, 0, none⟩) ks.length ck := hk.same 4 (by simp)
          simp [Region.wanted, Oper.wp, Act.eval, go_sem, e4, x0, x2, kj, pu, hlB, hlg, hlk, h3, h5, hnk0]
          exact hK _ _ (Below.refl _ _) rfl
          | 3, _ =>
          obtain rfl := Option.some.inj hoq
          intro a1 w1 K hk hK
          have e5 : a1.tmps.getD 5 undef = .int .i64 (j : Nat) := hk.same 5 (by simp)
          simp [Region.wanted, Oper.wp, Act.eval, go_sem, e5, x0, x2, kj, pu, hlB, hlg, hlk, h3, h5, hnk0]
          exact hK _ _ (Below.refl _ _) rfl
          | 4, _ =>
          obtain rfl := Option.some.inj hoq
          intro a1 w1 K hk hK
          have d38 : a1.tmps.getD 38 undef = .slice (some ⟨gk, 0, none⟩) ks.length ck := hk.deps ⟨2, .data⟩ (by simp) rfl _ _ rfl rfl
          have d39 : a1.tmps.getD 39 undef = .int .i64 (j : Nat) := hk.deps ⟨3, .data⟩ (by simp) rfl _ _ rfl rfl
          simp [Region.wanted, Oper.wp, Act.eval, go_sem, d38, d39, x0, x2, kj, pu, hlB, hlg, hlk, h3, h5, hnk0]
          exact hK _ _ (Below.refl _ _) rfl
          | 5, _ =>
          obtain rfl := Option.some.inj hoq
          intro a1 w1 K hk hK
          have d40 : a1.tmps.getD 40 undef = .pointer (some ⟨gk, j, none⟩) := hk.deps ⟨4, .data⟩ (by simp) rfl _ _ rfl rfl
          have c0 : w1.cell? ⟨B, 2, none⟩ = some (.slice AP j cP) := Below.keeps hk.ext _ _ (by simp [go_sem, x0, x2, kj, pu, hlB, hlg, hlk, h3, h5, hnk0])
          have c1 : w1.cell? ⟨gk, j, none⟩ = some (.slice (some ⟨kb9, ko9, none⟩) nk9 ck9) := Below.keeps hk.ext _ _ (by simp [go_sem, x0, x2, kj, pu, hlB, hlg, hlk, h3, h5, hnk0])
          have c2 : w1.cell? ⟨kb9, ko9, none⟩ = some (.slice AU9 nU9 cU9) := Below.keeps hk.ext _ _ (by simp [go_sem, x0, x2, kj, pu, hlB, hlg, hlk, h3, h5, hnk0])
          have c3 : w1.cell? ⟨B, 0, none⟩ = some (.int .i64 (n : Nat)) := Below.keeps hk.ext _ _ (by simp [go_sem, x0, x2, kj, pu, hlB, hlg, hlk, h3, h5, hnk0])
          simp [Region.wanted, Oper.wp, Act.eval, go_sem, d40, c0, c1, c2, c3, x0, x2, kj, pu, hlB, hlg, hlk, h3, h5, hnk0]
          exact hK _ _ (Below.refl _ _) rfl
          | 6, _ =>
          obtain rfl := Option.some.inj hoq
          intro a1 w1 K hk hK
          have d41 : a1.tmps.getD 41 undef = .slice (some ⟨kb9, ko9, none⟩) nk9 ck9 := hk.deps ⟨5, .data⟩ (by simp) rfl _ _ rfl rfl
          simp [Region.wanted, Oper.wp, Act.eval, go_sem, d41, x0, x2, kj, pu, hlB, hlg, hlk, h3, h5, hnk0]
          exact hK _ _ (Below.refl _ _) rfl
          | 7, _ =>
          obtain rfl := Option.some.inj hoq
          intro a1 w1 K hk hK
          have d42 : a1.tmps.getD 42 undef = .pointer (some ⟨kb9, ko9, none⟩) := hk.deps ⟨6, .data⟩ (by simp) rfl _ _ rfl rfl
          simp [Region.wanted, Oper.wp, Act.eval, go_sem, d42, x0, x2, kj, pu, hlB, hlg, hlk, h3, h5, hnk0]
          exact hK _ _ (Below.refl _ _) rfl
          | 8, _ =>
          obtain rfl := Option.some.inj hoq
          intro a1 w1 K hk hK
          have d43 : a1.tmps.getD 43 undef = .pointer (some ⟨kb9, ko9, none⟩) := hk.deps ⟨7, .data⟩ (by simp) rfl _ _ rfl rfl
          have c0 : w1.cell? ⟨B, 2, none⟩ = some (.slice AP j cP) := Below.keeps hk.ext _ _ (by simp [go_sem, x0, x2, kj, pu, hlB, hlg, hlk, h3, h5, hnk0])
          have c1 : w1.cell? ⟨gk, j, none⟩ = some (.slice (some ⟨kb9, ko9, none⟩) nk9 ck9) := Below.keeps hk.ext _ _ (by simp [go_sem, x0, x2, kj, pu, hlB, hlg, hlk, h3, h5, hnk0])
          have c2 : w1.cell? ⟨kb9, ko9, none⟩ = some (.slice AU9 nU9 cU9) := Below.keeps hk.ext _ _ (by simp [go_sem, x0, x2, kj, pu, hlB, hlg, hlk, h3, h5, hnk0])
          have c3 : w1.cell? ⟨B, 0, none⟩ = some (.int .i64 (n : Nat)) := Below.keeps hk.ext _ _ (by simp [go_sem, x0, x2, kj, pu, hlB, hlg, hlk, h3, h5, hnk0])
          simp [Region.wanted, Oper.wp, Act.eval, go_sem, d43, c0, c1, c2, c3, x0, x2, kj, pu, hlB, hlg, hlk, h3, h5, hnk0]
          exact hK _ _ (Below.refl _ _) rfl
          | 9, _ =>
          obtain rfl := Option.some.inj hoq
          intro a1 w1 K hk hK
          have e3 : a1.tmps.getD 3 undef = .pointer (some ⟨B, 0, none⟩) := hk.same 3 (by simp)
          simp [Region.wanted, Oper.wp, Act.eval, go_sem, e3, x0, x2, kj, pu, hlB, hlg, hlk, h3, h5, hnk0]
          exact hK _ _ (Below.refl _ _) rfl
          | 10, _ =>
          obtain rfl := Option.some.inj hoq
          intro a1 w1 K hk hK
          have d45 : a1.tmps.getD 45 undef = .pointer (some ⟨B, 0, none⟩) := hk.deps ⟨9, .data⟩ (by simp) rfl _ _ rfl rfl
          have c0 : w1.cell? ⟨B, 2, none⟩ = some (.slice AP j cP) := Below.keeps hk.ext _ _ (by simp [go_sem, x0, x2, kj, pu, hlB, hlg, hlk, h3, h5, hnk0])
          have c1 : w1.cell? ⟨gk, j, none⟩ = some (.slice (some ⟨kb9, ko9, none⟩) nk9 ck9) := Below.keeps hk.ext _ _ (by simp [go_sem, x0, x2, kj, pu, hlB, hlg, hlk, h3, h5, hnk0])
          have c2 : w1.cell? ⟨kb9, ko9, none⟩ = some (.slice AU9 nU9 cU9) := Below.keeps hk.ext _ _ (by simp [go_sem, x0, x2, kj, pu, hlB, hlg, hlk, h3, h5, hnk0])
          have c3 : w1.cell? ⟨B, 0, none⟩ = some (.int .i64 (n : Nat)) := Below.keeps hk.ext _ _ (by simp [go_sem, x0, x2, kj, pu, hlB, hlg, hlk, h3, h5, hnk0])
          simp [Region.wanted, Oper.wp, Act.eval, go_sem, d45, c0, c1, c2, c3, x0, x2, kj, pu, hlB, hlg, hlk, h3, h5, hnk0]
          exact hK _ _ (Below.refl _ _) rfl
          | 11, _ =>
          obtain rfl := Option.some.inj hoq
          intro a1 w1 K hk hK
          have d44 : a1.tmps.getD 44 undef = .slice AU9 nU9 cU9 := hk.deps ⟨8, .data⟩ (by simp) rfl _ _ rfl rfl
          have d46 : a1.tmps.getD 46 undef = .int .i64 (n : Nat) := hk.deps ⟨10, .data⟩ (by simp) rfl _ _ rfl rfl
          simp [Region.wanted, Oper.wp, Act.eval, go_sem, d44, d46, x0, x2, kj, pu, hlB, hlg, hlk, h3, h5, hnk0]
          refine (HAD.out _ (below_trans (by repeat (first | exact Below.refl _ _ | (refine Below.drew ?_) | (refine below_drewN' ?_ _) | (refine below_alloc' ?_ _) | (refine Below.setCell ?_ (by first | exact Nat.le_refl _ | (simp; done) | (simp; omega)) _))) hk.ext)).mono ?_
          rintro e w9 ⟨rfl, hw9⟩
          obtain rfl := hw9.symm
          exact hK _ _ (Below.refl _ _) rfl
          | 12, _ =>
          obtain rfl := Option.some.inj hoq
          intro a1 w1 K hk hK
          have d47 : a1.tmps.getD 47 undef = .int .i64 (ad : Nat) := hk.deps ⟨11, .data⟩ (by simp) rfl _ _ rfl rfl
          have d47x : a1.tmps[47]?.getD undef = .int .i64 (ad : Nat) := by rw [← d47]; simp
          simp [Region.wanted, Oper.wp, Act.eval, go_sem, d47, d47x, x0, x2, kj, pu, hlB, hlg, hlk, h3, h5, hnk0]
          exact hK _ _ (below_alloc' (Below.refl _ _) _) ⟨_, rfl, alloc_cell0 _ _ _⟩
        · intro vs w3 hl hb3 hv
          match vs, hl with
          | [v0, v1, v2, v3, v4, v5, v6, v7, v8, v9, v10, v11, v12], _ =>
          obtain rfl : v0 = .pointer (some ⟨B, 2, none⟩) := hv 0 (by omega)
          obtain rfl : v1 = .slice AP j cP := hv 1 (by omega)
          obtain rfl : v2 = .slice (some ⟨gk, 0, none⟩) ks.length ck := hv 2 (by omega)
          obtain rfl : v3 = .int .i64 (j : Nat) := hv 3 (by omega)
          obtain rfl : v4 = .pointer (some ⟨gk, j, none⟩) := hv 4 (by omega)
          obtain rfl : v5 = .slice (some ⟨kb9, ko9, none⟩) nk9 ck9 := hv 5 (by omega)
          obtain rfl : v6 = .pointer (some ⟨kb9, ko9, none⟩) := hv 6 (by omega)
          obtain rfl : v7 = .pointer (some ⟨kb9, ko9, none⟩) := hv 7 (by omega)
          obtain rfl : v8 = .slice AU9 nU9 cU9 := hv 8 (by omega)
          obtain rfl : v9 = .pointer (some ⟨B, 0, none⟩) := hv 9 (by omega)
          obtain rfl : v10 = .int .i64 (n : Nat) := hv 10 (by omega)
          obtain rfl : v11 = .int .i64 (ad : Nat) := hv 11 (by omega)
          have q12 : ∃ g9, v12 = .slice (some ⟨g9, 0, none⟩) 1 1 ∧ w3.cell? ⟨g9, 0, none⟩ = some (.int .i64 (ad : Nat)) := hv 12 (by omega)
          clear hv
          simp only [putAll, List.take_succ_cons, List.take_zero, List.drop_succ_cons, List.drop_zero, Act.put, List.setIfInBounds_toArray, List.set_cons_succ, List.set_cons_zero]
          obtain ⟨g9, rfl, hg9⟩ := q12
          have hb4 : Below wr.heap.size wr w3 := below_trans (by repeat (first | exact Below.refl _ _ | (refine Below.drew ?_) | (refine below_drewN' ?_ _) | (refine below_alloc' ?_ _) | (refine Below.setCell ?_ (by first | exact Nat.le_refl _ | (simp; done) | (simp; omega)) _))) hb3
          have hI3 : SIv w w3 B n j (.slice AU2 k cU2) (.slice (some ⟨gk, 0, none⟩) ks.length ck) pre kvs ks := ⟨⟨_, (hb4.block B hlB).trans HPV.out.1, HPV.out.2.below hb4⟩, HI.out.u.below hb4, HI.out.kv.below hb4, HI.out.bel.trans (hb4.mono HI.out.bel.size), (hb4.block _ (kr_lt HI.out.res)).trans HI.out.res⟩
          have HI3 := Lib.hid (And.intro hI3 (And.intro ((hb4.block B hlB).trans HPV.out.1) (HPV.out.2.below hb4)))
          clear hb3 hb4 hI3 x0 x2 kj pu
          go_wp2_with (at_builtin; refine wpList_append_V rfl (.tmp 37) (.tmp 48) rfl w (plV ks j) (.int .i64 (ad : Nat)) intsT ?_ ?_ ?_ ?_ ?_)
          · exact HI3.out.2.2
          · exact ⟨_, _, rfl, hg9, rfl⟩
          · exact HI3.out.1.bel.size
          · rw [plV_len ks j hj]; have := HN2.out.1; omega
          intro v' w4 hown' hg
          have hbk4 := (grown_keep HI3.out.2.2 hg (t := 115) (by decide) HI3.out.2.1).trans HI3.out.2.1
          have hu4 := HI3.out.1.u.keepBlock fun b cur hb => grown_keep HI3.out.2.2 hg (by decide) hb
          have hk4 := HI3.out.1.kv.keepBlock fun b cur hb => grown_keep HI3.out.2.2 hg (by decide) hb
          have hb4 := HI3.out.2.2.grown HI3.out.1.bel hg
          have hr4 := (grown_keep HI3.out.2.2 hg (t := 115) (by decide) HI3.out.1.res).trans HI3.out.1.res
          have HJ := Lib.hid (And.intro hbk4 (And.intro hu4 (And.intro hk4 (And.intro hb4 (And.intro hown' hr4)))))
          have x2 : w4.cell? ⟨B, 2, none⟩ = some (.slice AP j cP) := by simp only [World.cell?, hbk4]; simp
          have f2 : w4.frozen? ⟨B, 2, none⟩ = false := by simp [World.frozen?, hbk4]
          have hlB4 := kr_lt hbk4
          obtain ⟨AP4, cP4, e4⟩ := hown'.shape
          rw [List.length_append, plV_len ks j hj, List.length_singleton] at e4
          subst e4
          clear hbk4 hu4 hk4 hb4 hown' hg hg9 hr4
          go_wp2_with fail
          go_roundw
          case rel =>
            refine ⟨j + 1, by omega, (by first | rw [HW.out] | rfl | simp), ⟨⟨.slice AP4 (j + 1) cP4, by simpa using kr_set (k := 2) (u := .slice AP4 (j + 1) cP4) HJ.out.1, ?_⟩, HJ.out.2.1.set HJ.out.1 (by decide), HJ.out.2.2.1.set HJ.out.1 (by decide), HJ.out.2.2.2.1.setCell (p := ⟨B, 2, none⟩) HF.out.2.2.2 _, (kr_far (Nat.ne_of_lt HRS.out.2)).trans HJ.out.2.2.2.2.2⟩⟩
            rw [HPS.out]
            exact HJ.out.2.2.2.2.1.set HJ.out.1 (by decide)
          case measure => (first | (rw [intOf_of' HW.out, intOf_of' rfl]; omega) | (simp [intOf]; omega) | (simp [intOf] <;> omega))
      · obtain rfl : j = ks.length := by omega
        have h3 : ¬ (ks.length : Int) < (ks.length : Int) := by omega
        obtain ⟨pv, hBk, hpv⟩ := hI.blk
        have hres := hI.res
        obtain ⟨AP, cP, e8⟩ := hpv.shape
        rw [plV_len ks _ (Nat.le_refl _)] at e8
        subst e8
        have hbl := hI.bel
        have k0' := Below.keeps hbl _ _ HK0.out.1
        have hlb' := Nat.lt_of_lt_of_le hlb hbl.size
        have hBR : ¬ B = w.heap.size := fun e => absurd HRS.out.2 (by omega)
        have hRB : ¬ w.heap.size = B := fun e => absurd HRS.out.2 (by omega)
        have hBlb : ¬ B = lb := by have := HRS.out.2; omega
        have x0 : wr.cell? ⟨B, 0, none⟩ = some (.int .i64 (n : Nat)) := by simp only [World.cell?, hBk]; simp
        have x1 : wr.cell? ⟨B, 1, none⟩ = some (.slice AU2 k cU2) := by simp only [World.cell?, hBk]; simp
        have x2 : wr.cell? ⟨B, 2, none⟩ = some (.slice AP ks.length cP) := by simp only [World.cell?, hBk]; simp
        have x3 : wr.cell? ⟨B, 3, none⟩ = some (.bool false) := by simp only [World.cell?, hBk]; simp
        have x4 : wr.cell? ⟨B, 4, none⟩ = some (.int .u64 0) := by simp only [World.cell?, hBk]; simp
        have xf : wr.frozen? ⟨B, 3, none⟩ = false := by simp [World.frozen?, hBk]
        have r0 : wr.cell? ⟨w.heap.size, 0, none⟩ = some (.int .i64 0) := by simp only [World.cell?, hres]; simp
        have rf0 : wr.frozen? ⟨w.heap.size, 0, none⟩ = false := by simp [World.frozen?, hres]
        have r1 : wr.cell? ⟨w.heap.size, 1, none⟩ = some (.slice none 0 0) := by simp only [World.cell?, hres]; simp
        have rf1 : wr.frozen? ⟨w.heap.size, 1, none⟩ = false := by simp [World.frozen?, hres]
        have r2 : wr.cell? ⟨w.heap.size, 2, none⟩ = some (.slice none 0 0) := by simp only [World.cell?, hres]; simp
        have rf2 : wr.frozen? ⟨w.heap.size, 2, none⟩ = false := by simp [World.frozen?, hres]
        have r3 : wr.cell? ⟨w.heap.size, 3, none⟩ = some (.bool false) := by simp only [World.cell?, hres]; simp
        have rf3 : wr.frozen? ⟨w.heap.size, 3, none⟩ = false := by simp [World.frozen?, hres]
        have r4 : wr.cell? ⟨w.heap.size, 4, none⟩ = some (.int .u64 0) := by simp only [World.cell?, hres]; simp
        have rf4 : wr.frozen? ⟨w.heap.size, 4, none⟩ = false := by simp [World.frozen?, hres]
        have hlB := kr_lt hBk
        have hlR := kr_lt hres
        have HPV := Lib.hid (And.intro hBk (And.intro hpv hres))
        have HB9 := Lib.hid hbl
        clear hBk hpv hI hbl hres
        go_wp2_with fail
        refine (HDN.out _).mono ?_
        rintro e w5 ⟨rfl, hw5⟩
        obtain rfl := hw5.symm
        go_wp2_with fail
        refine bodyPost_ret (v := .agg #[.int .i64 (n : Nat), .slice AU2 k cU2, .slice AP ks.length cP, .bool (densB k ks.length), .int .u64 0]) (by simp [results, Tryz.results108, go_sem, r0, r1, r2, r3, r4, hBR, hRB]) rfl ?_
        have hB' : ShB wr B := ⟨_, _, HPV.out.1⟩
        have hR' : ShB wr w.heap.size := ⟨_, _, HPV.out.2.2⟩
        have hP := HPV.out.2.1
        rw [plV_all] at hP
        rw [HSH.out]
        exact ⟨_, rfl, ⟨_, _, rfl, (.inr ((HI.out.u.setS6 hB' hR' (by decide)).pt (by rw [HPL.out.1]; exact HKS.out.1.k1))), hP.setS6 hB' hR' (by decide)⟩,
          (((((HB9.out.setCell (p := ⟨B, 3, none⟩) (Nat.le_of_lt HRS.out.2) _).setCell (p := ⟨w.heap.size, 0, none⟩) (Nat.le_refl _) _).setCell (p := ⟨w.heap.size, 1, none⟩) (Nat.le_refl _) _).setCell (p := ⟨w.heap.size, 2, none⟩) (Nat.le_refl _) _).setCell (p := ⟨w.heap.size, 3, none⟩) (Nat.le_refl _) _).setCell (p := ⟨w.heap.size, 4, none⟩) (Nat.le_refl _) _⟩
end Go.Proofs.YtjokcagggmjgmaaGreat
/-! RowS -/
namespace Go.Proofs.YtjokcagggmjgmaaGreat
open Go.RowKit
set_option linter.unusedVariables false
set_option linter.unusedSimpArgs false

theorem shapeInfo : (Tryz.prog.info? 115).map (fun i => (i.zero, i.size, i.bytes)) = some (some (.agg #[.int .i64 0, .slice none 0 0, .slice none 0 0, .bool false, .int .u64 0]), 5, 72) := by kernel_rfl
/-- a shape's rows: the point's, the places' -/
abbrev PtS' := Value → Value → Sh → Prop
/-- the cells cs hold the shapes l, Pt saying what their rows read as -/
def CellsS (Pt : PtS') : List Sh → List Value → Prop
  | [], cs => cs = []
  | s :: l, cs => ∃ u pl ds, cs = .int .i64 s.lv :: u :: pl :: .bool s.dense :: .int .u64 (s.v : Nat) :: ds ∧ Pt u pl s ∧ CellsS Pt l ds
theorem CellsS.length {Pt : PtS'} {cs : List Value} {l : List Sh} (h : CellsS Pt l cs) : cs.length = l.length * 5 := by
  induction l generalizing cs with
  | nil => obtain rfl : cs = [] := h; rfl
  | cons e l ih => obtain ⟨u, pl, ds, rfl, _, h⟩ := h; have := ih h; simp; omega
theorem CellsS.append {Pt : PtS'} {cs ds : List Value} {l m : List Sh} (h : CellsS Pt l cs) (k : CellsS Pt m ds) : CellsS Pt (l ++ m) (cs ++ ds) := by
  induction l generalizing cs with
  | nil => obtain rfl : cs = [] := h; exact k
  | cons e l ih => obtain ⟨u, pl, ds, rfl, hu, h⟩ := h; exact ⟨u, pl, _, rfl, hu, ih h⟩
theorem CellsS.mono {Pt Qt : PtS'} {cs : List Value} {l : List Sh} (h : CellsS Pt l cs) (hk : ∀ u p s, Pt u p s → Qt u p s) : CellsS Qt l cs := by
  induction l generalizing cs with
  | nil => exact h
  | cons e l ih => obtain ⟨u, pl, ds, rfl, hu, h⟩ := h; exact ⟨u, pl, ds, rfl, hk _ _ _ hu, ih h⟩
/-- rows are slices -/
def SlicesP (Pt : PtS') : Prop := ∀ u p s, Pt u p s → u.oneCell' = true ∧ p.oneCell' = true
theorem CellsS.oneCell {Pt : PtS'} (hp : SlicesP Pt) {cs : List Value} {l : List Sh} (h : CellsS Pt l cs) : ∀ u ∈ cs, u.oneCell' = true := by
  induction l generalizing cs with
  | nil => obtain rfl : cs = [] := h; intro u hu; simp at hu
  | cons e l ih =>
    obtain ⟨u, pl, ds, rfl, hu, h⟩ := h
    intro y hy
    simp only [List.mem_cons] at hy
    rcases hy with rfl | rfl | rfl | rfl | rfl | hy
    · rfl
    · exact (hp _ _ _ hu).1
    · exact (hp _ _ _ hu).2
    · rfl
    · rfl
    · exact ih h y hy
/-- a shape at a block's offset -/
def ShAt (Pt : PtS') (w : World) (b o : Nat) (s : Sh) : Prop := ∃ u pl, w.cell? ⟨b, o, none⟩ = some (.int .i64 s.lv) ∧ w.cell? ⟨b, o + 1, none⟩ = some u ∧ w.cell? ⟨b, o + 2, none⟩ = some pl ∧ w.cell? ⟨b, o + 3, none⟩ = some (.bool s.dense) ∧ w.cell? ⟨b, o + 4, none⟩ = some (.int .u64 (s.v : Nat)) ∧ Pt u pl s
theorem CellsS.at {Pt : PtS'} {w : World} {cs : List Value} {l : List Sh} (h : CellsS Pt l cs) {b o : Nat} (hc : ∀ j (h : j < cs.length), w.cell? ⟨b, o + j, none⟩ = some cs[j]) :
    ∀ j (h : j < l.length), ShAt Pt w b (o + j * 5) l[j] := by
  induction l generalizing cs o with
  | nil => intro j hj; simp at hj
  | cons e l ih =>
    obtain ⟨u, pl, ds, rfl, hu, h⟩ := h
    · intro j hj
      cases j with
      | zero =>
        have c0 := hc 0 (by simp)
        have c1 := hc 1 (by simp)
        have c2 := hc 2 (by simp)
        have c3 := hc 3 (by simp)
        have c4 := hc 4 (by simp)
        simp only [List.getElem_cons_zero, List.getElem_cons_succ, Nat.add_zero] at c0 c1 c2 c3 c4
        simp only [List.getElem_cons_zero, Nat.zero_mul, Nat.add_zero]
        exact ⟨u, pl, c0, c1, c2, c3, c4, hu⟩
      | succ j =>
        have := ih h (o := o + 5) (fun i hi => by
          have := hc (i + 5) (by simpa using hi)
          simp only [List.getElem_cons_succ] at this
          rw [show o + 5 + i = o + (i + 5) by omega]; exact this) j (by simpa using hj)
        simp only [List.getElem_cons_succ]
        rw [show o + (j + 1) * 5 = o + 5 + j * 5 by omega]; exact this
/-- the slice value v reads as the list l of shapes -/
def RdS (Pt : PtS') (w : World) (v : Value) (l : List Sh) : Prop :=
  ∃ A c, v = .slice A l.length c ∧ (0 < l.length → ∃ b, A = some ⟨b, 0, none⟩ ∧ ∀ j (h : j < l.length), ShAt Pt w b (j * 5) l[j])
/-- v is a row of the call's own (the call began in W) that holds the shapes l -/
def OwnS (Pt : PtS') (W w : World) (v : Value) (l : List Sh) : Prop := ∃ cs, w.ownsRow W.heap.size 115 5 v l.length cs ∧ CellsS Pt l cs
theorem OwnS.cellsAt {W w : World} {v : Value} {l : List Sh} {cs : List Value} (ho : w.ownsRow W.heap.size 115 5 v l.length cs) (hl : cs.length = l.length * 5) :
    (v = .slice none 0 0 ∧ l.length = 0) ∨ ∃ g cap, v = .slice (some ⟨g, 0, none⟩) l.length cap ∧ ∀ j (h : j < cs.length), w.cell? ⟨g, j, none⟩ = some cs[j] := by
  obtain ⟨h1, h2⟩ := ho
  rcases h2 with ⟨rfl, h0⟩ | ⟨g, cap, cur, rfl, hg, hh, hcap, hm, hs, ht⟩
  · exact .inl ⟨rfl, h0⟩
  · refine .inr ⟨g, cap, rfl, fun j hj => ?_⟩
    have h3 : cs[j]? = some cs[j] := List.getElem?_eq_getElem hj
    have h4 : j < l.length * 5 := by omega
    rw [← h3, ← ht, List.getElem?_take_of_lt h4, World.cell?]
    simp only [hh]
    simp
theorem OwnS.rd {Pt : PtS'} {W w : World} {v : Value} {l : List Sh} (h : OwnS Pt W w v l) : RdS Pt w v l := by
  obtain ⟨cs, ho, hc⟩ := h
  rcases OwnS.cellsAt ho hc.length with ⟨rfl, h0⟩ | ⟨g, cap, rfl, h1⟩
  · exact ⟨none, 0, by rw [h0], fun hp => absurd hp (by omega)⟩
  · refine ⟨_, _, rfl, fun h0 => ⟨g, rfl, fun j hj => ?_⟩⟩
    have := hc.at (b := g) (o := 0) (w := w) (fun j hj => by rw [Nat.zero_add]; exact h1 j hj) j hj
    rw [Nat.zero_add] at this; exact this
theorem OwnS.nil (Pt : PtS') (W w : World) : OwnS Pt W w (.slice none 0 0) [] := ⟨[], World.ownsRow_nil _ _ _ _, rfl⟩
theorem OwnS.mono {Pt Qt : PtS'} {W w : World} {v : Value} {l : List Sh} (h : OwnS Pt W w v l) (hk : ∀ u p s, Pt u p s → Qt u p s) : OwnS Qt W w v l := let ⟨cs, h1, h2⟩ := h; ⟨cs, h1, h2.mono hk⟩
theorem OwnS.below {Pt : PtS'} {W w w' : World} {v : Value} {l : List Sh} (h : OwnS Pt W w v l) (hb : Below w.heap.size w w') : OwnS Pt W w' v l := by
  obtain ⟨cs, ⟨h1, h2⟩, h3⟩ := h
  refine ⟨cs, ⟨h1, ?_⟩, h3⟩
  rcases h2 with h2 | ⟨g, cap, cur, q1, q2, q3, q4⟩
  · exact .inl h2
  · exact .inr ⟨g, cap, cur, q1, q2, (hb.block g (Array.getElem?_eq_some_iff.1 q3).1).trans q3, q4⟩
theorem OwnS.block {Pt : PtS'} {W w : World} {v : Value} {l : List Sh} (h : OwnS Pt W w v l) : ∀ k, v.ownBlock = some k → W.heap.size ≤ k ∧ ∃ cur, w.heap[k]? = some (.cells cur 115 (0, 0)) := by
  obtain ⟨cs, ⟨h1, h2⟩, h3⟩ := h
  intro k hk
  rcases h2 with ⟨rfl, _⟩ | ⟨g, cap, cur, rfl, q2, q3, q4⟩
  · cases hk
  · injection hk with hk; subst hk; exact ⟨q2, cur, q3⟩
theorem OwnS.grown {Pt : PtS'} {W w w' : World} {v : Value} {l : List Sh} (h : OwnS Pt W w v l) (hb : Below W.heap.size W w) (hg : w.grownBy w' v.ownBlock) : Below W.heap.size W w' :=
  hb.grown hg hb.size fun k hk => (h.block k hk).1
/-- shapes to be appended -/
def SrcS (Pt : PtS') (w : World) (x : Value) (m : List Sh) : Prop := ∃ cs, CellsS Pt m cs ∧ Src w 5 m.length x cs
theorem OwnS.src {Pt : PtS'} (hp : SlicesP Pt) {W w : World} {v : Value} {l : List Sh} (h : OwnS Pt W w v l) : SrcS Pt w v l := by
  obtain ⟨cs, ho, hc⟩ := h
  refine ⟨cs, hc, hc.length, hc.oneCell hp, ?_⟩
  rcases OwnS.cellsAt ho hc.length with ⟨rfl, h0⟩ | ⟨g, cap, rfl, h1⟩
  · exact ⟨none, 0, by rw [h0], fun _ => ⟨h0, rfl⟩, fun ad had => by cases had⟩
  · refine ⟨_, _, rfl, (fun h => by cases h), fun ad had j u hj => ?_⟩
    injection had with had; subst had
    obtain ⟨hj', rfl⟩ := List.getElem?_eq_some_iff.1 hj
    have := h1 j hj'
    cases j with
    | zero => simpa [Addr.add] using this
    | succ j => simpa [Addr.add] using this
theorem SrcS.one {Pt : PtS'} (hp : SlicesP Pt) {w : World} {b cc : Nat} {s : Sh} {u pl : Value} (hu : Pt u pl s) (k0 : w.cell? ⟨b, 0, none⟩ = some (.int .i64 s.lv)) (k1 : w.cell? ⟨b, 1, none⟩ = some u) (k2 : w.cell? ⟨b, 2, none⟩ = some pl)
    (k3 : w.cell? ⟨b, 3, none⟩ = some (.bool s.dense)) (k4 : w.cell? ⟨b, 4, none⟩ = some (.int .u64 (s.v : Nat))) : SrcS Pt w (.slice (some ⟨b, 0, none⟩) 1 cc) [s] := by
  have hn : CellsS Pt [s] [.int .i64 s.lv, u, pl, .bool s.dense, .int .u64 (s.v : Nat)] := ⟨u, pl, [], rfl, hu, rfl⟩
  refine ⟨_, hn, rfl, hn.oneCell hp, _, cc, rfl, (fun h => by cases h), fun ad had j x hj => ?_⟩
  injection had with had; subst had
  match j with
  | 0 => simp at hj; subst hj; simpa [Addr.add] using k0
  | 1 => simp at hj; subst hj; simpa [Addr.add] using k1
  | 2 => simp at hj; subst hj; simpa [Addr.add] using k2
  | 3 => simp at hj; subst hj; simpa [Addr.add] using k3
  | 4 => simp at hj; subst hj; simpa [Addr.add] using k4
  | j + 5 => simp at hj
theorem run_append_S {Pt : PtS'} (W w : World) (v x : Value) (l m : List Sh) (hown : OwnS Pt W w v l) (hx : SrcS Pt w x m) (hb : W.heap.size ≤ w.heap.size) (hlen : l.length + m.length ≤ 100000) (ty : TypeId) :
    ∃ v' w', (Builtin.append_ #[61, 61] ty #[v, x]).run Tryz.prog w = .ok v' w' ∧ OwnS Pt W w' v' (l ++ m) ∧ w.grownBy w' v.ownBlock := by
  obtain ⟨cs, ho, hc⟩ := hown
  obtain ⟨ds, hd, hsrc⟩ := hx
  obtain ⟨v', w', a1, a2, a3⟩ := run_append_src (P := Tryz.prog) w W.heap.size 61 ty 115 _ 5 72 Tryz.underlying61 shapeInfo rfl (by omega) v l.length cs ho x m.length ds hsrc (by simp only [maxLen]; omega) (by omega) hb
  exact ⟨v', w', a1, ⟨_, by rw [List.length_append]; exact a2, hc.append hd⟩, a3⟩
theorem wpList_append_S {Pt : PtS'} {w : World} {ops : Array Oper} {rest : List Oper} {o : Oper} {a : Act} {Q : Exit → Act → World → Prop} (hgd : o.guard = none) (s x : Operand)
    (ho : o.op = .call { callee := .builtin .append, args := #[s, x], argTypes := #[61, 61] }) (W : World) (l m : List Sh)
    (hown : OwnS Pt W w (a.eval s) l) (hx : SrcS Pt w (a.eval x) m) (hb : W.heap.size ≤ w.heap.size) (hlen : l.length + m.length ≤ 100000)
    (h : ∀ v' w', OwnS Pt W w' v' (l ++ m) → w.grownBy w' (a.eval s).ownBlock → wpList Tryz.prog ops Q rest (a.put o.dst v') w') : wpList Tryz.prog ops Q (o :: rest) a w := by
  refine wpList_plain hgd fun K hK => ?_
  obtain ⟨v', w', hrun, r1, r2⟩ := run_append_S W w _ _ l m hown hx hb hlen o.type
  unfold Oper.wp
  simp [execOp, ho, resolve, invoke, builtin, hrun, Result.andThen]
  exact hK _ _ (h v' w' r1 r2)
end Go.Proofs.YtjokcagggmjgmaaGreat
/-! RefU -/
namespace Go.Proofs.YtjokcagggmjgmaaGreat
open Go.RowKit
set_option linter.unusedVariables false
set_option linter.unusedSimpArgs false
set_option maxRecDepth 100000

/-- what a shape's rows read as -/
def PtK (W0 W w : World) : PtS' := fun u pl s => (RdU W0 u (pti s.pre) ∨ PtNew w u s.pre) ∧ OwnV 3 W w pl (s.pl.map fun (x : Nat) => Value.int .i64 (x : Nat))
theorem PtK.below {W0 W w w' : World} (hb : Below w.heap.size w w') : ∀ u p s, PtK W0 W w u p s → PtK W0 W w' u p s := fun u p s h => ⟨h.1.imp id (·.below hb), h.2.below hb⟩
theorem PtK.base {W0 W W' w : World} (hs : W.heap.size ≤ W'.heap.size) : ∀ u p s, PtK W0 W' w u p s → PtK W0 W w u p s := fun u p s h => ⟨h.1, h.2.base hs⟩
theorem PtK.grown {W0 W w w' : World} {Pt : PtS'} {v : Value} {l : List Sh} (ho : OwnS Pt W w v l) (hg : w.grownBy w' v.ownBlock) : ∀ u p s, PtK W0 W w u p s → PtK W0 W w' u p s := by
  have key : ∀ {b : Nat} {cur : Array Value} {t : TypeId} {fr : Nat × Nat}, t ≠ 115 → w.heap[b]? = some (.cells cur t fr) → w'.heap[b]? = w.heap[b]? := fun ht hb =>
    hg.block _ (kr_lt hb) fun e => by
      obtain ⟨_, c2, h2⟩ := ho.block _ e.symm
      rw [hb] at h2
      injection h2 with h2
      injection h2 with _ h2 _
      exact ht h2
  exact fun u p s h => ⟨h.1.imp id (·.keepBlock fun b cur fr hb => key (by decide) hb), h.2.keepBlock fun b cur hb => key (by decide) hb⟩
theorem slicesK (W0 W w : World) : SlicesP (PtK W0 W w) := by
  intro u p s h
  refine ⟨?_, ?_⟩
  · rcases h.1 with h1 | h1
    · exact RdU.one' h1
    · exact RdU.one' h1.rd
  · obtain ⟨A, c, rfl⟩ := h.2.shape
    rfl
theorem ShK.pt {W0 W w : World} {x : Value} {s : Sh} (h : ShK W0 W w x s) : ∃ u pl, x = .agg #[.int .i64 s.lv, u, pl, .bool s.dense, .int .u64 (s.v : Nat)] ∧ PtK W0 W w u pl s := let ⟨u, pl, h1, h2, h3⟩ := h; ⟨u, pl, h1, h2, h3⟩
/-- a row of shapes is handed back -/
def ShsP (W0 W : World) (l : List Sh) (e : Ending) (w' : World) : Prop := ∃ v, e = .returned v ∧ OwnS (PtK W0 W w') W w' v l ∧ Below W.heap.size W w'
theorem OwnS.lit1 {Pt : PtS'} {W w : World} {s : Sh} {u pl : Value} (hb : W.heap.size ≤ w.heap.size) (hu : Pt u pl s) : OwnS Pt W (w.alloc (.cells #[.int .i64 s.lv, u, pl, .bool s.dense, .int .u64 (s.v : Nat)] 115)) (.slice (some ⟨w.heap.size, 0, none⟩) 1 1) [s] :=
  ⟨[.int .i64 s.lv, u, pl, .bool s.dense, .int .u64 (s.v : Nat)], World.ownsRow_lit w #[.int .i64 s.lv, u, pl, .bool s.dense, .int .u64 (s.v : Nat)] 1 hb (by simp [maxLen]) (by simp), u, pl, [], rfl, hu, rfl⟩
theorem rShapes_one (W0 w : World) (e : En) (v : Value) (hv : RdE W0 v [e]) (hb0 : Below W0.heap.size W0 w) : Calls Tryz.prog 64 #[v] w fun e' w' => ShsP W0 w (shapesL [e]) e' w' := by
  have HSH := Lib.hid (rShape_one W0 w e v hv hb0)
  obtain ⟨A, c, rfl, _⟩ := hv
  rw [List.length_singleton] at HSH ⊢
  clear hb0
  go_enter Tryz.func64, Tryz.ntmps64
  go_wp2_with fail
  refine HSH.out.mono ?_
  rintro e w1 ⟨x, rfl, hx, hb⟩
  obtain ⟨u, pl, rfl, hpt⟩ := hx.pt
  have HX := Lib.hid (And.intro hpt hb)
  have h1 := (slicesK _ _ _ _ _ _ hpt)
  clear hx hb hpt
  go_wp2_with fail
  go_ret
  exact ⟨_, rfl, OwnS.lit1 HX.out.2.size (PtK.below (by repeat (first | exact Below.refl _ _ | (refine Below.drew ?_) | (refine below_drewN' ?_ _) | (refine below_alloc' ?_ _) | (refine Below.setCell ?_ (by first | exact Nat.le_refl _ | (simp; done) | (simp; omega)) _))) _ _ _ HX.out.1), below_alloc' HX.out.2 _⟩
theorem flat_len (ks : List (Nat × List En)) (h : ∀ x ∈ ks, (shapesL x.2).length + 1 ≤ 2 * x.2.length) : (ks.flatMap fun x => shapesL x.2).length + ks.length ≤ 2 * (cat ks).length := by
  induction ks with
  | nil => simp [cat]
  | cons x ks ih =>
    have h1 := h x (by simp)
    have h2 := ih fun y hy => h y (by simp [hy])
    unfold cat at h2 ⊢
    simp only [List.flatMap_cons, List.length_append, List.length_cons]
    omega
theorem Tn.len {k : Nat} {l : List En} (h : Tn k l) : (shapesL l).length + 1 ≤ 2 * l.length := by
  induction h with
  | one e h => rw [shapes_one]; simp
  | node n pre ks hk hn ih =>
    rw [Tn.shapes hk hn]
    have := flat_len ks ih
    have h2 := hk.two
    simp only [List.length_cons]
    omega
theorem flat_take (ks : List (Nat × List En)) (j : Nat) (hj : j < ks.length) : ((ks.take (j + 1)).flatMap fun x => shapesL x.2) = ((ks.take j).flatMap fun x => shapesL x.2) ++ shapesL ks[j].2 := by
  rw [← List.take_append_getElem hj, List.flatMap_append]; simp
set_option maxHeartbeats 2000000 in
theorem rShapes_node (W0 w : World) (k n : Nat) (pre : List Nat) (ks : List (Nat × List En)) (v : Value) (hk : Kd k n pre ks) (hn : ∀ x ∈ ks, Tn k x.2)
    (ih : ∀ x ∈ ks, ∀ (W0 w : World) (v : Value), RdE W0 v x.2 → Below W0.heap.size W0 w → EtS k x.2 → Calls Tryz.prog 64 #[v] w fun e' w' => ShsP W0 w (shapesL x.2) e' w')
    (hv : RdE W0 v (cat ks)) (hb0 : Below W0.heap.size W0 w) (he : EtS k (cat ks)) : Calls Tryz.prog 64 #[v] w fun e' w' => ShsP W0 w (shapesL (cat ks)) e' w' := by
  have HSH := Lib.hid (rShape_more W0 w k n pre ks v hk (hv.below hb0) he)
  have hl2 := hk.two_le
  have hl0 : 0 < (cat ks).length := by omega
  have HKD := Lib.hid (fun w' (hb : Below w.heap.size w w') => rKids_any k n (cat ks) v W0 w' hv (hb0.trans (hb.mono hb0.size)) he hk.lev hl0)
  rw [hk.kids] at HKD
  have hcl := cat_length ks hk.ne
  have HIH := Lib.hid (fun j (hj : j < ks.length) w' v' (hb : Below w.heap.size w w') (h : RdE W0 v' ks[j].2) => ih ks[j] (List.getElem_mem hj) W0 w' v' h (hb0.trans (hb.mono hb0.size)) ⟨hk.et _ (List.getElem_mem hj), he.k40, by have := hcl.2 _ (List.getElem_mem hj); have := he.short; omega⟩)
  have HTS := Lib.hid (And.intro (Tn.shapes hk hn) (And.intro (flat_len ks fun x hx => (hn x hx).len) (And.intro he.short (And.intro hk.two hcl.1))))
  obtain ⟨A, c, rfl, _⟩ := hv
  have h1f : (((cat ks).length : Int) == 1) = false := by rw [beq_eq_false_iff_ne]; omega
  have h0f : (((cat ks).length : Int) == 0) = false := by rw [beq_eq_false_iff_ne]; omega
  clear hb0 hk hn ih he hl2 hl0 hcl
  generalize cat ks = l at *
  go_enter Tryz.func64, Tryz.ntmps64
  go_wp2_with fail
  refine HSH.out.mono ?_
  rintro e w1 ⟨x, rfl, hx, hb⟩
  obtain ⟨u, pl, rfl, hpt⟩ := hx.pt
  have HX := Lib.hid (And.intro (OwnS.lit1 (Pt := PtK W0 w (w1.alloc (.cells #[.int .i64 (shL l).lv, u, pl, .bool (shL l).dense, .int .u64 ((shL l).v : Nat)] 115))) (w := w1) (W := w) hb.size (PtK.below (below_alloc' (Below.refl _ _) _) _ _ _ hpt)) hb)
  have h1 := (slicesK _ _ _ _ _ _ hpt)
  clear hx hb hpt
  go_wp2_with fail
  refine (HKD.out _ (below_alloc' HX.out.2 _)).mono ?_
  rintro e w4 ⟨kv, rfl, ⟨kvs, hkv, hvl, hvs⟩, hb5⟩
  rw [List.length_map] at hvl
  obtain ⟨gk, ck, rfl, hgk, hcv⟩ := hkv.cells (by intro h; rw [h] at hvl; have := HTS.out.2.2.2.1; simp at hvl; omega)
  have HVS := Lib.hid (And.intro hvl hvs)
  have hbw : Below w.heap.size w w4 := (below_alloc' HX.out.2 _).trans (hb5.mono (Below.size (below_alloc' HX.out.2 _)))
  have HS := Lib.hid (And.intro ((HX.out.1.below hb5).mono (PtK.below hb5)) (And.intro (hkv.base (Below.size (below_alloc' HX.out.2 _))) hbw))
  rw [hvl] at HS ⊢
  clear hkv hgk hcv hb5 hvs hvl hbw
  go_wp2_with fail
  go_loopw [3, 5] (fun ov iv wr => ∃ j : Nat, j ≤ ks.length ∧ iv = .int .i64 (j : Nat) ∧ OwnS (PtK W0 w wr) w wr ov (shL l :: (ks.take j).flatMap fun x => shapesL x.2) ∧ OwnV 28 w wr (.slice (some ⟨gk, 0, none⟩) ks.length ck) kvs ∧ Below w.heap.size w wr) (fun _ iv _ => ks.length - (intOf iv).toNat)
  case atStart => exact ⟨0, Nat.zero_le _, rfl, HS.out⟩
  case round =>
    obtain ⟨j, hj, rfl, hown, hkv, hb⟩ := hrel
    have HR := Lib.hid (And.intro hown (And.intro hkv hb))
    by_cases hlt : j < ks.length
    · have h3 : (j : Int) < (ks.length : Int) := by omega
      have h5 : (0 : Int) ≤ (j : Int) := by omega
      have HW := Lib.hid (show wrap64 ((j : Int) + 1) = ((j + 1 : Nat) : Int) by have := HTS.out; unfold wrap64; omega)
      have kj := hkv.cellsAt (by intro h; have := HVS.out.1; rw [h] at this; simp at this; omega) j (by rw [HVS.out.1]; exact hlt)
      have hr := HVS.out.2 j (by rw [HVS.out.1]; exact hlt) (by rw [List.length_map]; exact hlt)
      rw [List.getElem_map] at hr
      have HC := Lib.hid (HIH.out j hlt wr _ hb hr)
      obtain ⟨A9, c9, ev, zz⟩ := hr
      clear zz
      rw [ev] at HC kj
      have hlg : gk < wr.heap.size := World.block_lt_of_cell? wr _ kj
      have HT := Lib.hid (And.intro (flat_take ks j hlt) (show ((ks.take j).flatMap fun x => shapesL x.2).length + (shapesL ks[j].2).length ≤ (ks.flatMap fun x => shapesL x.2).length by
        rw [← List.length_append, ← flat_take ks j hlt]
        conv => rhs; rw [← List.take_append_drop (j + 1) ks, List.flatMap_append, List.length_append]
        omega))
      clear ev hown hkv hb
      generalize (ks[j]).2.length = nk at *
      go_wp2_with fail
      refine HC.out.mono ?_
      rintro e w5 ⟨v5, rfl, ho5, hb5⟩
      have HO := Lib.hid (And.intro ((HR.out.1.below hb5).mono (PtK.below hb5)) (And.intro (HR.out.2.1.below hb5) (And.intro (HR.out.2.2.trans (hb5.mono HR.out.2.2.size)) (ho5.mono (PtK.base HR.out.2.2.size)))))
      clear ho5 hb5
      go_wp2_with (at_builtin; refine wpList_append_S (Pt := PtK W0 w w5) rfl (.tmp 24) (.tmp 29) rfl w (shL l :: (ks.take j).flatMap fun x => shapesL x.2) (shapesL ks[j].2) ?_ ?_ ?_ ?_ ?_)
      · exact HO.out.1
      · exact HO.out.2.2.2.src (slicesK _ _ _)
      · exact HO.out.2.2.1.size
      · have := HTS.out; have := HT.out.2; simp only [List.length_cons]; omega
      intro v' w6 hown' hg
      have h6 := hown'.mono (PtK.grown HO.out.1 hg)
      have hk6 := HO.out.2.1.keepBlock fun b cur hb => hg.block b (kr_lt hb) fun e => by
        obtain ⟨_, c2, h2⟩ := HO.out.1.block b e.symm
        rw [hb] at h2
        injection h2 with h2
        injection h2 with _ h2 _
        revert h2; decide
      have hb6 := HO.out.1.grown HO.out.2.2.1 hg
      have HF := Lib.hid (And.intro h6 (And.intro hk6 hb6))
      clear hown' hg h6 hk6 hb6
      go_wp2_with fail
      go_roundw
      case rel => exact ⟨j + 1, by omega, (by first | rw [HW.out] | rfl | simp), by rw [HT.out.1]; exact HF.out.1, HF.out.2.1, HF.out.2.2⟩
      case measure => (first | (rw [intOf_of' HW.out, intOf_of' rfl]; omega) | (simp [intOf]; omega) | (simp [intOf] <;> omega))
    · obtain rfl : j = ks.length := by omega
      have h3 : ¬ (ks.length : Int) < (ks.length : Int) := by omega
      rw [List.take_length] at HR
      clear hown hkv hb
      go_wp2_with fail
      go_ret
      exact ⟨_, rfl, by rw [HTS.out.1]; exact HR.out.1, HR.out.2.2⟩
theorem rShapes_tn {k : Nat} {l : List En} (h : Tn k l) : ∀ (W0 w : World) (v : Value), RdE W0 v l → Below W0.heap.size W0 w → EtS k l → Calls Tryz.prog 64 #[v] w fun e' w' => ShsP W0 w (shapesL l) e' w' := by
  induction h with
  | one e h => intro W0 w v hv hb he; exact rShapes_one W0 w e v hv hb
  | node n pre ks hk hn ih => intro W0 w v hv hb he; exact rShapes_node W0 w k n pre ks v hk hn ih hv hb he
theorem rShapes_nil (W0 w : World) (v : Value) (hv : RdE w v []) : Calls Tryz.prog 64 #[v] w fun e' w' => ShsP W0 w (shapesL []) e' w' := by
  obtain ⟨A, c, rfl, _⟩ := hv
  simp only [List.length_nil]
  go_enter Tryz.func64, Tryz.ntmps64
  go_wp2_with fail
  go_ret
  exact ⟨_, rfl, OwnS.nil _ _ _, Below.refl _ _⟩
end Go.Proofs.YtjokcagggmjgmaaGreat
/-! RefV -/
namespace Go.Proofs.YtjokcagggmjgmaaGreat
open Go.RowKit
set_option linter.unusedVariables false
set_option linter.unusedSimpArgs false
set_option maxRecDepth 100000

set_option maxHeartbeats 2000000 in
theorem rSameShape (w : World) (x y : Value) (s : Sh) (hx : ShR w x s) (hy : ShR w y s) (h1 : s.pre.length ≤ 100) (h2 : s.pl.length ≤ 100000) :
    Calls Tryz.prog 73 #[x, y] w fun e w' => e = .returned (.bool true) ∧ Below w.heap.size w w' := by
  obtain ⟨u, pl, rfl, hu, hp⟩ := hx
  obtain ⟨u2, pl2, rfl, hu2, hp2⟩ := hy
  have HSM := Lib.hid (fun w' (hb : Below w.heap.size w w') => Same_any u u2 _ _ w' (hu.below hb) (hu2.below hb) (by unfold pti; rw [List.length_map]; omega))
  have HP := Lib.hid (And.intro hp hp2)
  obtain ⟨A1, c1, rfl, _⟩ := RdU.point hu
  obtain ⟨A2, c2, rfl, _⟩ := RdU.point hu2
  obtain ⟨A3, c3, rfl, hx3⟩ := hp
  obtain ⟨A4, c4, rfl, hx4⟩ := hp2
  rw [List.length_map] at *
  have HX := Lib.hid (And.intro hx3 (And.intro hx4 h2))
  have e1 : (s.lv != s.lv) = false := by simp
  have e2 : ((s.v : Int) != (s.v : Int)) = false := by simp
  have e3 : ((s.pl.length : Int) != (s.pl.length : Int)) = false := by simp
  have e4 : (s.dense != s.dense) = false := by simp
  clear hu hu2 hx3 hx4 h1 h2
  go_enter Tryz.func73, Tryz.ntmps73
  go_wp2_with fail
  refine (HSM.out _ (by repeat (first | exact Below.refl _ _ | (refine Below.drew ?_) | (refine below_drewN' ?_ _) | (refine below_alloc' ?_ _) | (refine Below.setCell ?_ (by first | exact Nat.le_refl _ | (simp; done) | (simp; omega)) _)))).mono ?_
  rintro e w1 ⟨rfl, nq, rfl⟩
  simp only [decide_true]
  go_wp2_with fail
  generalize hW1 : ((w.alloc (.cells #[.int .i64 s.lv, .slice A1 s.pre.length c1, .slice A3 s.pl.length c3, .bool s.dense, .int .u64 (s.v : Nat)] 115)).alloc (.cells #[.int .i64 s.lv, .slice A2 s.pre.length c2, .slice A4 s.pl.length c4, .bool s.dense, .int .u64 (s.v : Nat)] 115)).drewN nq = W1
  have b2 : W1.cell? ⟨w.heap.size, 2, none⟩ = some (.slice A3 s.pl.length c3) := by rw [← hW1]; simp [go_sem]
  have b3 : W1.cell? ⟨w.heap.size + 1, 2, none⟩ = some (.slice A4 s.pl.length c4) := by rw [← hW1]; simp [go_sem]
  have HB := Lib.hid (show Below w.heap.size w W1 from by rw [← hW1]; exact (by repeat (first | exact Below.refl _ _ | (refine Below.drew ?_) | (refine below_drewN' ?_ _) | (refine below_alloc' ?_ _) | (refine Below.setCell ?_ (by first | exact Nat.le_refl _ | (simp; done) | (simp; omega)) _))))
  have hl2 : w.heap.size < W1.heap.size := World.block_lt_of_cell? W1 _ b2
  have hl3 : w.heap.size + 1 < W1.heap.size := World.block_lt_of_cell? W1 _ b3
  clear hW1
  go_loopw [5] (fun iv wr => ∃ j n : Nat, j ≤ s.pl.length ∧ iv = .int .i64 (j : Nat) ∧ wr = W1.drewN n) (fun iv _ => s.pl.length - (intOf iv).toNat)
  case atStart => exact ⟨0, 0, Nat.zero_le _, rfl, rfl⟩
  case round =>
    obtain ⟨j, n, hj, rfl, hw⟩ := hrel
    subst hw
    by_cases hlt : j < s.pl.length
    · have h3 : (j : Int) < (s.pl.length : Int) := by omega
      have h5 : (0 : Int) ≤ (j : Int) := by omega
      have HW := Lib.hid (show wrap64 ((j : Int) + 1) = ((j + 1 : Nat) : Int) by have := HX.out.2.2; unfold wrap64; omega)
      obtain ⟨b5, o5, rfl, hc5⟩ := HX.out.1 (by first | omega | (rw [List.length_map]; omega))
      obtain ⟨b6, o6, rfl, hc6⟩ := HX.out.2.1 (by first | omega | (rw [List.length_map]; omega))
      have k5 := Below.keeps HB.out _ _ (hc5 j (by rw [List.length_map]; exact hlt))
      have k6 := Below.keeps HB.out _ _ (hc6 j (by rw [List.length_map]; exact hlt))
      rw [List.getElem_map] at k5 k6
      have hb5 : b5 < W1.heap.size := World.block_lt_of_cell? W1 _ k5
      have hb6 : b6 < W1.heap.size := World.block_lt_of_cell? W1 _ k6
      generalize s.pl[j] = z at *
      have e5 : ((z : Int) != (z : Int)) = false := by simp
      clear hc5 hc6
      go_wp2_with fail
      go_quiet (fail)
      go_wp2_with fail
      go_roundw
      case rel => exact ⟨j + 1, _, by omega, (by first | rw [HW.out] | rfl | simp), rfl⟩
      case measure => (first | (rw [intOf_of' HW.out, intOf_of' rfl]; omega) | (simp [intOf]; omega) | (simp [intOf] <;> omega))
    · have h3 : ¬ (j : Int) < (s.pl.length : Int) := by omega
      go_wp2_with fail
      go_ret
      exact ⟨rfl, below_drewN' HB.out _⟩
end Go.Proofs.YtjokcagggmjgmaaGreat
/-! RefW -/
namespace Go.Proofs.YtjokcagggmjgmaaGreat
open Go.RowKit
set_option linter.unusedVariables false
set_option linter.unusedSimpArgs false
set_option maxRecDepth 100000

/-- a shape's rows, read -/
def PtR (w : World) : PtS' := fun u pl s => RdU w u (pti s.pre) ∧ Sl w pl (s.pl.map fun (x : Nat) => Value.int .i64 (x : Nat))
theorem PtK.rd {W0 W w : World} (hb : Below W0.heap.size W0 w) : ∀ u p s, PtK W0 W w u p s → PtR w u p s := fun u p s h => ⟨h.1.elim (·.below hb) (·.rd), h.2.rd⟩
theorem PtR.below {w w' : World} (hb : Below w.heap.size w w') : ∀ u p s, PtR w u p s → PtR w' u p s := fun u p s h => ⟨h.1.below hb, h.2.below hb⟩
set_option maxHeartbeats 2000000 in
theorem rSameShapes (w : World) (x y : Value) (l : List Sh) (hx : RdS (PtR w) w x l) (hy : RdS (PtR w) w y l) (hl : l.length ≤ 100000) (hs : ∀ s ∈ l, s.pre.length ≤ 100 ∧ s.pl.length ≤ 100000) :
    Calls Tryz.prog 35 #[x, y] w fun e w' => e = .returned (.bool true) ∧ Below w.heap.size w w' := by
  obtain ⟨A1, c1, rfl, hx⟩ := hx
  obtain ⟨A2, c2, rfl, hy⟩ := hy
  have HX := Lib.hid (And.intro hx hy)
  have HL := Lib.hid (And.intro hl hs)
  have hn : ((l.length : Int) != (l.length : Int)) = false := by simp
  clear hx hy hl hs
  go_enter Tryz.func35, Tryz.ntmps35
  go_wp2_with fail
  go_loopw [5] (fun iv wr => ∃ j : Nat, j ≤ l.length ∧ iv = .int .i64 (j : Nat) ∧ Below w.heap.size w wr) (fun iv _ => l.length - (intOf iv).toNat)
  case atStart => exact ⟨0, Nat.zero_le _, rfl, (by repeat (first | exact Below.refl _ _ | (refine Below.drew ?_) | (refine below_drewN' ?_ _) | (refine below_alloc' ?_ _) | (refine Below.setCell ?_ (by first | exact Nat.le_refl _ | (simp; done) | (simp; omega)) _)))⟩
  case round =>
    obtain ⟨j, hj, rfl, hb⟩ := hrel
    have HB := Lib.hid hb
    by_cases hlt : j < l.length
    · have h3 : (j : Int) < (l.length : Int) := by omega
      have h5 : (0 : Int) ≤ (j : Int) := by omega
      have HW := Lib.hid (show wrap64 ((j : Int) + 1) = ((j + 1 : Nat) : Int) by have := HL.out.1; unfold wrap64; omega)
      obtain ⟨b1, rfl, hc1⟩ := HX.out.1 (by omega)
      obtain ⟨b2, rfl, hc2⟩ := HX.out.2 (by omega)
      obtain ⟨u1, pl1, p0, p1, p2, p3, p4, pt1⟩ := hc1 j hlt
      obtain ⟨u2, pl2, q0, q1, q2, q3, q4, pt2⟩ := hc2 j hlt
      have hms := HL.out.2 _ (List.getElem_mem hlt)
      replace p0 := Below.keeps hb _ _ p0
      replace p1 := Below.keeps hb _ _ p1
      replace p2 := Below.keeps hb _ _ p2
      replace p3 := Below.keeps hb _ _ p3
      replace p4 := Below.keeps hb _ _ p4
      replace q0 := Below.keeps hb _ _ q0
      replace q1 := Below.keeps hb _ _ q1
      replace q2 := Below.keeps hb _ _ q2
      replace q3 := Below.keeps hb _ _ q3
      replace q4 := Below.keeps hb _ _ q4
      have HSS := Lib.hid (fun w' (hb2 : Below wr.heap.size wr w') => rSameShape w' _ _ l[j] ⟨u1, pl1, rfl, (pt1.1.below hb).below hb2, (pt1.2.below hb).below hb2⟩ ⟨u2, pl2, rfl, (pt2.1.below hb).below hb2, (pt2.2.below hb).below hb2⟩ hms.1 hms.2)
      have hl1 : b1 < wr.heap.size := World.block_lt_of_cell? wr _ p0
      have hl2 : b2 < wr.heap.size := World.block_lt_of_cell? wr _ q0
      clear pt1 pt2 hms hc1 hc2 hb
      generalize l[j] = s at *
      go_wp2_with fail
      refine wp_region_vals 9 [fun z9 _ => z9 = .slice (some ⟨b1, 0, none⟩) l.length c1,
        fun z9 _ => z9 = .int .i64 (j : Nat),
        fun z9 _ => z9 = .pointer (some ⟨b1, j * 5, none⟩),
        fun z9 _ => z9 = .agg #[.int .i64 s.lv, u1, pl1, .bool s.dense, .int .u64 (s.v : Nat)],
        fun z9 _ => z9 = .slice (some ⟨b2, 0, none⟩) l.length c2,
        fun z9 _ => z9 = .int .i64 (j : Nat),
        fun z9 _ => z9 = .pointer (some ⟨b2, j * 5, none⟩),
        fun z9 _ => z9 = .agg #[.int .i64 s.lv, u2, pl2, .bool s.dense, .int .u64 (s.v : Nat)],
        fun z9 _ => z9 = .bool true]
        (by kernel_rfl) (by kernel_rfl) (by kernel_rfl) (by kernel_rfl) ?_ ?_ ?_
      · intro V hV v w1 w2 h hb
        simp only [List.mem_cons, List.not_mem_nil, or_false] at hV
        rcases hV with rfl | rfl | rfl | rfl | rfl | rfl | rfl | rfl | rfl
        all_goals first | exact h | (exact h)
      · intro iq oq hiq hoq
        match iq, hiq with
        | 0, _ =>
        obtain rfl := Option.some.inj hoq
        intro a1 w1 K hk hK
        have e0 : a1.tmps.getD 0 undef = .slice (some ⟨b1, 0, none⟩) l.length c1 := hk.same 0 (by simp)
        simp [Region.wanted, Oper.wp, Act.eval, go_sem, e0, p0, p1, p2, p3, p4, q0, q1, q2, q3, q4, hl1, hl2, h3, h5]
        exact hK _ _ (Below.refl _ _) rfl
        | 1, _ =>
        obtain rfl := Option.some.inj hoq
        intro a1 w1 K hk hK
        have e5 : a1.tmps.getD 5 undef = .int .i64 (j : Nat) := hk.same 5 (by simp)
        simp [Region.wanted, Oper.wp, Act.eval, go_sem, e5, p0, p1, p2, p3, p4, q0, q1, q2, q3, q4, hl1, hl2, h3, h5]
        exact hK _ _ (Below.refl _ _) rfl
        | 2, _ =>
        obtain rfl := Option.some.inj hoq
        intro a1 w1 K hk hK
        have d17 : a1.tmps.getD 17 undef = .slice (some ⟨b1, 0, none⟩) l.length c1 := hk.deps ⟨0, .data⟩ (by simp) rfl _ _ rfl rfl
        have d18 : a1.tmps.getD 18 undef = .int .i64 (j : Nat) := hk.deps ⟨1, .data⟩ (by simp) rfl _ _ rfl rfl
        simp [Region.wanted, Oper.wp, Act.eval, go_sem, d17, d18, p0, p1, p2, p3, p4, q0, q1, q2, q3, q4, hl1, hl2, h3, h5]
        exact hK _ _ (Below.refl _ _) rfl
        | 3, _ =>
        obtain rfl := Option.some.inj hoq
        intro a1 w1 K hk hK
        have d19 : a1.tmps.getD 19 undef = .pointer (some ⟨b1, j * 5, none⟩) := hk.deps ⟨2, .data⟩ (by simp) rfl _ _ rfl rfl
        have c0 : w1.cell? ⟨b1, j * 5, none⟩ = some (.int .i64 s.lv) := Below.keeps hk.ext _ _ (by simp [go_sem, p0, p1, p2, p3, p4, q0, q1, q2, q3, q4, hl1, hl2, h3, h5])
        have c1 : w1.cell? ⟨b1, j * 5 + 1, none⟩ = some (u1) := Below.keeps hk.ext _ _ (by simp [go_sem, p0, p1, p2, p3, p4, q0, q1, q2, q3, q4, hl1, hl2, h3, h5])
        have c2 : w1.cell? ⟨b1, j * 5 + 2, none⟩ = some (pl1) := Below.keeps hk.ext _ _ (by simp [go_sem, p0, p1, p2, p3, p4, q0, q1, q2, q3, q4, hl1, hl2, h3, h5])
        have c3 : w1.cell? ⟨b1, j * 5 + 3, none⟩ = some (.bool s.dense) := Below.keeps hk.ext _ _ (by simp [go_sem, p0, p1, p2, p3, p4, q0, q1, q2, q3, q4, hl1, hl2, h3, h5])
        have c4 : w1.cell? ⟨b1, j * 5 + 4, none⟩ = some (.int .u64 (s.v : Nat)) := Below.keeps hk.ext _ _ (by simp [go_sem, p0, p1, p2, p3, p4, q0, q1, q2, q3, q4, hl1, hl2, h3, h5])
        have c5 : w1.cell? ⟨b2, j * 5, none⟩ = some (.int .i64 s.lv) := Below.keeps hk.ext _ _ (by simp [go_sem, p0, p1, p2, p3, p4, q0, q1, q2, q3, q4, hl1, hl2, h3, h5])
        have c6 : w1.cell? ⟨b2, j * 5 + 1, none⟩ = some (u2) := Below.keeps hk.ext _ _ (by simp [go_sem, p0, p1, p2, p3, p4, q0, q1, q2, q3, q4, hl1, hl2, h3, h5])
        have c7 : w1.cell? ⟨b2, j * 5 + 2, none⟩ = some (pl2) := Below.keeps hk.ext _ _ (by simp [go_sem, p0, p1, p2, p3, p4, q0, q1, q2, q3, q4, hl1, hl2, h3, h5])
        have c8 : w1.cell? ⟨b2, j * 5 + 3, none⟩ = some (.bool s.dense) := Below.keeps hk.ext _ _ (by simp [go_sem, p0, p1, p2, p3, p4, q0, q1, q2, q3, q4, hl1, hl2, h3, h5])
        have c9 : w1.cell? ⟨b2, j * 5 + 4, none⟩ = some (.int .u64 (s.v : Nat)) := Below.keeps hk.ext _ _ (by simp [go_sem, p0, p1, p2, p3, p4, q0, q1, q2, q3, q4, hl1, hl2, h3, h5])
        simp [Region.wanted, Oper.wp, Act.eval, go_sem, d19, c0, c1, c2, c3, c4, c5, c6, c7, c8, c9, p0, p1, p2, p3, p4, q0, q1, q2, q3, q4, hl1, hl2, h3, h5]
        exact hK _ _ (Below.refl _ _) rfl
        | 4, _ =>
        obtain rfl := Option.some.inj hoq
        intro a1 w1 K hk hK
        have e1 : a1.tmps.getD 1 undef = .slice (some ⟨b2, 0, none⟩) l.length c2 := hk.same 1 (by simp)
        simp [Region.wanted, Oper.wp, Act.eval, go_sem, e1, p0, p1, p2, p3, p4, q0, q1, q2, q3, q4, hl1, hl2, h3, h5]
        exact hK _ _ (Below.refl _ _) rfl
        | 5, _ =>
        obtain rfl := Option.some.inj hoq
        intro a1 w1 K hk hK
        have e5 : a1.tmps.getD 5 undef = .int .i64 (j : Nat) := hk.same 5 (by simp)
        simp [Region.wanted, Oper.wp, Act.eval, go_sem, e5, p0, p1, p2, p3, p4, q0, q1, q2, q3, q4, hl1, hl2, h3, h5]
        exact hK _ _ (Below.refl _ _) rfl
        | 6, _ =>
        obtain rfl := Option.some.inj hoq
        intro a1 w1 K hk hK
        have d21 : a1.tmps.getD 21 undef = .slice (some ⟨b2, 0, none⟩) l.length c2 := hk.deps ⟨4, .data⟩ (by simp) rfl _ _ rfl rfl
        have d22 : a1.tmps.getD 22 undef = .int .i64 (j : Nat) := hk.deps ⟨5, .data⟩ (by simp) rfl _ _ rfl rfl
        simp [Region.wanted, Oper.wp, Act.eval, go_sem, d21, d22, p0, p1, p2, p3, p4, q0, q1, q2, q3, q4, hl1, hl2, h3, h5]
        exact hK _ _ (Below.refl _ _) rfl
        | 7, _ =>
        obtain rfl := Option.some.inj hoq
        intro a1 w1 K hk hK
        have d23 : a1.tmps.getD 23 undef = .pointer (some ⟨b2, j * 5, none⟩) := hk.deps ⟨6, .data⟩ (by simp) rfl _ _ rfl rfl
        have c0 : w1.cell? ⟨b1, j * 5, none⟩ = some (.int .i64 s.lv) := Below.keeps hk.ext _ _ (by simp [go_sem, p0, p1, p2, p3, p4, q0, q1, q2, q3, q4, hl1, hl2, h3, h5])
        have c1 : w1.cell? ⟨b1, j * 5 + 1, none⟩ = some (u1) := Below.keeps hk.ext _ _ (by simp [go_sem, p0, p1, p2, p3, p4, q0, q1, q2, q3, q4, hl1, hl2, h3, h5])
        have c2 : w1.cell? ⟨b1, j * 5 + 2, none⟩ = some (pl1) := Below.keeps hk.ext _ _ (by simp [go_sem, p0, p1, p2, p3, p4, q0, q1, q2, q3, q4, hl1, hl2, h3, h5])
        have c3 : w1.cell? ⟨b1, j * 5 + 3, none⟩ = some (.bool s.dense) := Below.keeps hk.ext _ _ (by simp [go_sem, p0, p1, p2, p3, p4, q0, q1, q2, q3, q4, hl1, hl2, h3, h5])
        have c4 : w1.cell? ⟨b1, j * 5 + 4, none⟩ = some (.int .u64 (s.v : Nat)) := Below.keeps hk.ext _ _ (by simp [go_sem, p0, p1, p2, p3, p4, q0, q1, q2, q3, q4, hl1, hl2, h3, h5])
        have c5 : w1.cell? ⟨b2, j * 5, none⟩ = some (.int .i64 s.lv) := Below.keeps hk.ext _ _ (by simp [go_sem, p0, p1, p2, p3, p4, q0, q1, q2, q3, q4, hl1, hl2, h3, h5])
        have c6 : w1.cell? ⟨b2, j * 5 + 1, none⟩ = some (u2) := Below.keeps hk.ext _ _ (by simp [go_sem, p0, p1, p2, p3, p4, q0, q1, q2, q3, q4, hl1, hl2, h3, h5])
        have c7 : w1.cell? ⟨b2, j * 5 + 2, none⟩ = some (pl2) := Below.keeps hk.ext _ _ (by simp [go_sem, p0, p1, p2, p3, p4, q0, q1, q2, q3, q4, hl1, hl2, h3, h5])
        have c8 : w1.cell? ⟨b2, j * 5 + 3, none⟩ = some (.bool s.dense) := Below.keeps hk.ext _ _ (by simp [go_sem, p0, p1, p2, p3, p4, q0, q1, q2, q3, q4, hl1, hl2, h3, h5])
        have c9 : w1.cell? ⟨b2, j * 5 + 4, none⟩ = some (.int .u64 (s.v : Nat)) := Below.keeps hk.ext _ _ (by simp [go_sem, p0, p1, p2, p3, p4, q0, q1, q2, q3, q4, hl1, hl2, h3, h5])
        simp [Region.wanted, Oper.wp, Act.eval, go_sem, d23, c0, c1, c2, c3, c4, c5, c6, c7, c8, c9, p0, p1, p2, p3, p4, q0, q1, q2, q3, q4, hl1, hl2, h3, h5]
        exact hK _ _ (Below.refl _ _) rfl
        | 8, _ =>
        obtain rfl := Option.some.inj hoq
        intro a1 w1 K hk hK
        have d20 : a1.tmps.getD 20 undef = .agg #[.int .i64 s.lv, u1, pl1, .bool s.dense, .int .u64 (s.v : Nat)] := hk.deps ⟨3, .data⟩ (by simp) rfl _ _ rfl rfl
        have d24 : a1.tmps.getD 24 undef = .agg #[.int .i64 s.lv, u2, pl2, .bool s.dense, .int .u64 (s.v : Nat)] := hk.deps ⟨7, .data⟩ (by simp) rfl _ _ rfl rfl
        simp [Region.wanted, Oper.wp, Act.eval, go_sem, d20, d24, p0, p1, p2, p3, p4, q0, q1, q2, q3, q4, hl1, hl2, h3, h5]
        refine (HSS.out _ (below_trans (by repeat (first | exact Below.refl _ _ | (refine Below.drew ?_) | (refine below_drewN' ?_ _) | (refine below_alloc' ?_ _) | (refine Below.setCell ?_ (by first | exact Nat.le_refl _ | (simp; done) | (simp; omega)) _))) hk.ext)).mono ?_
        rintro e w9 ⟨rfl, hb9⟩
        exact hK _ _ hb9 rfl
      · intro vs w3 hl hb3 hv
        match vs, hl with
        | [v0, v1, v2, v3, v4, v5, v6, v7, v8], _ =>
        obtain rfl : v0 = .slice (some ⟨b1, 0, none⟩) l.length c1 := hv 0 (by omega)
        obtain rfl : v1 = .int .i64 (j : Nat) := hv 1 (by omega)
        obtain rfl : v2 = .pointer (some ⟨b1, j * 5, none⟩) := hv 2 (by omega)
        obtain rfl : v3 = .agg #[.int .i64 s.lv, u1, pl1, .bool s.dense, .int .u64 (s.v : Nat)] := hv 3 (by omega)
        obtain rfl : v4 = .slice (some ⟨b2, 0, none⟩) l.length c2 := hv 4 (by omega)
        obtain rfl : v5 = .int .i64 (j : Nat) := hv 5 (by omega)
        obtain rfl : v6 = .pointer (some ⟨b2, j * 5, none⟩) := hv 6 (by omega)
        obtain rfl : v7 = .agg #[.int .i64 s.lv, u2, pl2, .bool s.dense, .int .u64 (s.v : Nat)] := hv 7 (by omega)
        obtain rfl : v8 = .bool true := hv 8 (by omega)
        clear hv
        simp only [putAll, List.take_succ_cons, List.take_zero, List.drop_succ_cons, List.drop_zero, Act.put, List.setIfInBounds_toArray, List.set_cons_succ, List.set_cons_zero]
        have hb4 : Below wr.heap.size wr w3 := below_trans (by repeat (first | exact Below.refl _ _ | (refine Below.drew ?_) | (refine below_drewN' ?_ _) | (refine below_alloc' ?_ _) | (refine Below.setCell ?_ (by first | exact Nat.le_refl _ | (simp; done) | (simp; omega)) _))) hb3
        have HB4 := Lib.hid (HB.out.trans (hb4.mono HB.out.size))
        clear hb3 hb4
        go_wp2_with fail
        go_roundw
        case rel => exact ⟨j + 1, by omega, (by first | rw [HW.out] | rfl | simp), HB4.out⟩
        case measure => (first | (rw [intOf_of' HW.out, intOf_of' rfl]; omega) | (simp [intOf]; omega) | (simp [intOf] <;> omega))
    · have h3 : ¬ (j : Int) < (l.length : Int) := by omega
      clear hb
      go_wp2_with fail
      go_ret
      exact ⟨rfl, HB.out⟩
end Go.Proofs.YtjokcagggmjgmaaGreat
/-! RefX -/
namespace Go.Proofs.YtjokcagggmjgmaaGreat
open Go.RowKit
set_option linter.unusedVariables false
set_option linter.unusedSimpArgs false
set_option maxRecDepth 100000

/-- the sums that are being made: the block's cells -/
def SB (w : World) (G : Nat) (S : Sm) : Prop := w.heap[G]? = some (.cells #[.int .u64 (S.n : Nat), .int .u64 (S.s : Nat), .int .u64 (S.mn : Nat), .int .u64 (S.mx : Nat)] 159 (0, 0))
theorem SB.cell {w : World} {G : Nat} {S : Sm} (h : SB w G S) (i : Nat) : w.cell? ⟨G, i, none⟩ = (#[.int .u64 (S.n : Nat), .int .u64 (S.s : Nat), .int .u64 (S.mn : Nat), .int .u64 (S.mx : Nat)] : Array Value)[i]? := by
  unfold SB at h; simp [World.cell?, h]
theorem SB.thaw {w : World} {G : Nat} {S : Sm} (h : SB w G S) (i : Nat) : w.frozen? ⟨G, i, none⟩ = false := by unfold SB at h; simp [World.frozen?, h]
/-- one more -/
def Sm.step (S : Sm) (j v : Nat) : Sm := ⟨(S.n + 1) % 2 ^ 64, (S.s + v) % 2 ^ 64, if j = 0 ∨ v < S.mn then v else S.mn, if S.mx < v then v else S.mx⟩
theorem sums_take {l : List En} (hv : ∀ e ∈ l, e.v < 2 ^ 64) (j : Nat) (hj : j < l.length) : sumsL (l.take (j + 1)) = (sumsL (l.take j)).step j l[j].v := by
  rw [← List.take_append_getElem hj]
  by_cases h0 : j = 0
  · subst h0
    have := hv _ (List.getElem_mem hj)
    simp only [List.take_zero, List.nil_append]
    show Sm.of l[0].v = Sm.step ⟨0, 0, 0, 0⟩ 0 l[0].v
    unfold Sm.step Sm.of
    simp
    omega
  · rw [sumsL_append (List.ne_nil_of_length_pos (by rw [List.length_take]; omega)) (by simp)]
    show (sumsL (l.take j)).add (Sm.of l[j].v) = _
    unfold Sm.step Sm.add Sm.of
    simp only [Sm.mk.injEq, true_and]
    refine ⟨?_, ?_⟩
    · split <;> omega
    · split <;> omega
set_option maxHeartbeats 4000000 in
theorem rSums_any (w : World) (l : List En) (v : Value) (hv : RdE w v l) (ho : ∀ e ∈ l, e.v < 2 ^ 64) (hl : l.length ≤ 1000) :
    Calls Tryz.prog 112 #[v] w fun e w' => e = .returned (smV (sumsL l)) ∧ Below w.heap.size w w' := by
  obtain ⟨A, c, rfl, _, hx⟩ := hv
  have HX := Lib.hid hx
  have HD := Lib.hid (And.intro ho hl)
  clear hx ho hl
  go_enter Tryz.func112, Tryz.ntmps112
  go_wp2_with fail
  go_loopw [4, 5] (fun iv _ wr => ∃ j : Nat, j ≤ l.length ∧ iv = .int .i64 (j : Nat) ∧ SB wr (w.heap.size + 1) (sumsL (l.take j)) ∧ SB wr w.heap.size ⟨0, 0, 0, 0⟩ ∧ Below w.heap.size w wr) (fun iv _ _ => l.length - (intOf iv).toNat)
  case atStart =>
    have z := alloc_blk w (.cells #[.int .u64 0, .int .u64 0, .int .u64 0, .int .u64 0] 159)
    have h := alloc_blk (w.alloc (.cells #[.int .u64 0, .int .u64 0, .int .u64 0, .int .u64 0] 159)) (.cells #[.int .u64 0, .int .u64 0, .int .u64 0, .int .u64 0] 159)
    have z2 := ((below_alloc' (Below.refl (w.alloc (.cells #[.int .u64 0, .int .u64 0, .int .u64 0, .int .u64 0] 159)).heap.size _) (.cells #[.int .u64 0, .int .u64 0, .int .u64 0, .int .u64 0] 159)).block w.heap.size (by simp)).trans z
    rw [World.size_alloc] at h
    exact ⟨0, Nat.zero_le _, rfl, h, z2, (by repeat (first | exact Below.refl _ _ | (refine Below.drew ?_) | (refine below_drewN' ?_ _) | (refine below_alloc' ?_ _) | (refine Below.setCell ?_ (by first | exact Nat.le_refl _ | (simp; done) | (simp; omega)) _)))⟩
  case round =>
    obtain ⟨j, hj, rfl, hG, hR, hb⟩ := hrel
    have HB := Lib.hid (And.intro hG (And.intro hR hb))
    have hlG := kr_lt hG
    have hlR := kr_lt hR
    have g0 := hG.cell 0
    have g1 := hG.cell 1
    have g2 := hG.cell 2
    have g3 := hG.cell 3
    have t0 := hG.thaw 0
    have t1 := hG.thaw 1
    have t2 := hG.thaw 2
    have t3 := hG.thaw 3
    by_cases hlt : j < l.length
    · have h3 : (j : Int) < (l.length : Int) := by omega
      have h5 : (0 : Int) ≤ (j : Int) := by omega
      have HW := Lib.hid (show wrap64 ((j : Int) + 1) = ((j + 1 : Nat) : Int) by have := HD.out.2; unfold wrap64; omega)
      obtain ⟨b2, o2, rfl, hc⟩ := HX.out (by omega)
      obtain ⟨u, k0, ku, k1⟩ := hc j hlt
      replace k1 := Below.keeps hb _ _ k1
      have hlb : b2 < wr.heap.size := World.block_lt_of_cell? wr _ k1
      have HS := Lib.hid (sums_take HD.out.1 j hlt)
      obtain ⟨S, hS⟩ : ∃ S, sumsL (l.take j) = S := ⟨_, rfl⟩
      rw [hS] at g0 g1 g2 g3 HS HB
      simp at g0 g1 g2 g3
      have w1 : IntKind.u64.wrap ((S.n : Int) + 1) = (((S.n + 1) % 2 ^ 64 : Nat) : Int) := wrap_add_nat S.n 1
      have w2 := wrap_add_nat S.s l[j].v
      obtain ⟨x, hx⟩ : ∃ x, l[j].v = x := ⟨_, rfl⟩
      rw [hx] at k1 w2 HS
      clear hx hS hc k0 ku hG hR hb
      by_cases hmn : j = 0 ∨ x < S.mn
      · by_cases hjz : j = 0
        · have hj0 : ((j : Int) == 0) = true := by simp; omega
          clear hjz
          by_cases hmx : S.mx < x
          · have hd : (x : Int) > (S.mx : Int) := by omega
            go_wp2_with fail
            go_roundw
            case rel =>
              refine ⟨j + 1, by omega, (by first | rw [HW.out] | rfl | simp), ?_, (kr_far (by omega)).trans ((kr_far (by omega)).trans ((kr_far (by omega)).trans ((kr_far (by omega)).trans (HB.out.2.1)))), ((((HB.out.2.2).setCell (p := ⟨w.heap.size + 1, 2, none⟩) (Nat.le_succ _) _).setCell (p := ⟨w.heap.size + 1, 3, none⟩) (Nat.le_succ _) _).setCell (p := ⟨w.heap.size + 1, 0, none⟩) (Nat.le_succ _) _).setCell (p := ⟨w.heap.size + 1, 1, none⟩) (Nat.le_succ _) _⟩
              rw [HS.out]
              unfold Sm.step
              rw [if_pos hmn, if_pos hmx]
              exact kr_set (k := 1) (kr_set (k := 0) (kr_set (k := 3) (kr_set (k := 2) (HB.out.1))))
            case measure => (first | (rw [intOf_of' HW.out, intOf_of' rfl]; omega) | (simp [intOf]; omega) | (simp [intOf] <;> omega))
          · have hd : ¬ (x : Int) > (S.mx : Int) := by omega
            go_wp2_with fail
            go_roundw
            case rel =>
              refine ⟨j + 1, by omega, (by first | rw [HW.out] | rfl | simp), ?_, (kr_far (by omega)).trans ((kr_far (by omega)).trans ((kr_far (by omega)).trans (HB.out.2.1))), (((HB.out.2.2).setCell (p := ⟨w.heap.size + 1, 2, none⟩) (Nat.le_succ _) _).setCell (p := ⟨w.heap.size + 1, 0, none⟩) (Nat.le_succ _) _).setCell (p := ⟨w.heap.size + 1, 1, none⟩) (Nat.le_succ _) _⟩
              rw [HS.out]
              unfold Sm.step
              rw [if_pos hmn, if_neg hmx]
              exact kr_set (k := 1) (kr_set (k := 0) (kr_set (k := 2) (HB.out.1)))
            case measure => (first | (rw [intOf_of' HW.out, intOf_of' rfl]; omega) | (simp [intOf]; omega) | (simp [intOf] <;> omega))
        · have hj0 : ((j : Int) == 0) = false := by simp; omega
          have hxm : (x : Int) < (S.mn : Int) := by omega
          by_cases hmx : S.mx < x
          · have hd : (x : Int) > (S.mx : Int) := by omega
            go_wp2_with fail
            go_roundw
            case rel =>
              refine ⟨j + 1, by omega, (by first | rw [HW.out] | rfl | simp), ?_, (kr_far (by omega)).trans ((kr_far (by omega)).trans ((kr_far (by omega)).trans ((kr_far (by omega)).trans (HB.out.2.1)))), ((((HB.out.2.2).setCell (p := ⟨w.heap.size + 1, 2, none⟩) (Nat.le_succ _) _).setCell (p := ⟨w.heap.size + 1, 3, none⟩) (Nat.le_succ _) _).setCell (p := ⟨w.heap.size + 1, 0, none⟩) (Nat.le_succ _) _).setCell (p := ⟨w.heap.size + 1, 1, none⟩) (Nat.le_succ _) _⟩
              rw [HS.out]
              unfold Sm.step
              rw [if_pos hmn, if_pos hmx]
              exact kr_set (k := 1) (kr_set (k := 0) (kr_set (k := 3) (kr_set (k := 2) (HB.out.1))))
            case measure => (first | (rw [intOf_of' HW.out, intOf_of' rfl]; omega) | (simp [intOf]; omega) | (simp [intOf] <;> omega))
          · have hd : ¬ (x : Int) > (S.mx : Int) := by omega
            go_wp2_with fail
            go_roundw
            case rel =>
              refine ⟨j + 1, by omega, (by first | rw [HW.out] | rfl | simp), ?_, (kr_far (by omega)).trans ((kr_far (by omega)).trans ((kr_far (by omega)).trans (HB.out.2.1))), (((HB.out.2.2).setCell (p := ⟨w.heap.size + 1, 2, none⟩) (Nat.le_succ _) _).setCell (p := ⟨w.heap.size + 1, 0, none⟩) (Nat.le_succ _) _).setCell (p := ⟨w.heap.size + 1, 1, none⟩) (Nat.le_succ _) _⟩
              rw [HS.out]
              unfold Sm.step
              rw [if_pos hmn, if_neg hmx]
              exact kr_set (k := 1) (kr_set (k := 0) (kr_set (k := 2) (HB.out.1)))
            case measure => (first | (rw [intOf_of' HW.out, intOf_of' rfl]; omega) | (simp [intOf]; omega) | (simp [intOf] <;> omega))
      · have hj0 : ((j : Int) == 0) = false := by simp; omega
        have hxm : decide ((x : Int) < (S.mn : Int)) = false := by simp; omega
        have hxm' : ¬ (x : Int) < (S.mn : Int) := by omega
        by_cases hmx : S.mx < x
        · have hd : (x : Int) > (S.mx : Int) := by omega
          go_wp2_with fail
          go_roundw
          case rel =>
            refine ⟨j + 1, by omega, (by first | rw [HW.out] | rfl | simp), ?_, (kr_far (by omega)).trans ((kr_far (by omega)).trans ((kr_far (by omega)).trans (HB.out.2.1))), (((HB.out.2.2).setCell (p := ⟨w.heap.size + 1, 3, none⟩) (Nat.le_succ _) _).setCell (p := ⟨w.heap.size + 1, 0, none⟩) (Nat.le_succ _) _).setCell (p := ⟨w.heap.size + 1, 1, none⟩) (Nat.le_succ _) _⟩
            rw [HS.out]
            unfold Sm.step
            rw [if_neg hmn, if_pos hmx]
            exact kr_set (k := 1) (kr_set (k := 0) (kr_set (k := 3) (HB.out.1)))
          case measure => (first | (rw [intOf_of' HW.out, intOf_of' rfl]; omega) | (simp [intOf]; omega) | (simp [intOf] <;> omega))
        · have hd : ¬ (x : Int) > (S.mx : Int) := by omega
          go_wp2_with fail
          go_roundw
          case rel =>
            refine ⟨j + 1, by omega, (by first | rw [HW.out] | rfl | simp), ?_, (kr_far (by omega)).trans ((kr_far (by omega)).trans HB.out.2.1), (HB.out.2.2.setCell (p := ⟨w.heap.size + 1, 0, none⟩) (Nat.le_succ _) _).setCell (p := ⟨w.heap.size + 1, 1, none⟩) (Nat.le_succ _) _⟩
            rw [HS.out]
            unfold Sm.step
            rw [if_neg hmn, if_neg hmx]
            exact kr_set (k := 1) (kr_set (k := 0) HB.out.1)
          case measure => (first | (rw [intOf_of' HW.out, intOf_of' rfl]; omega) | (simp [intOf]; omega) | (simp [intOf] <;> omega))
    · have e : l.take j = l := List.take_of_length_le (by omega)
      have h3 : ¬ (j : Int) < (l.length : Int) := by omega
      have r0 := hR.cell 0
      have r1 := hR.cell 1
      have r2 := hR.cell 2
      have r3 := hR.cell 3
      have q0 := hR.thaw 0
      have q1 := hR.thaw 1
      have q2 := hR.thaw 2
      have q3 := hR.thaw 3
      rw [e] at g0 g1 g2 g3
      obtain ⟨S, hS⟩ : ∃ S, sumsL l = S := ⟨_, rfl⟩
      rw [hS] at g0 g1 g2 g3
      have HS := Lib.hid hS
      clear hS
      simp at g0 g1 g2 g3 r0 r1 r2 r3
      clear hG hR hb
      go_wp2_with fail
      refine bodyPost_ret (v := smV S) (by simp [results, Tryz.results112, go_sem, smV, r0, r1, r2, r3]) rfl ?_
      exact ⟨by rw [HS.out], ((((HB.out.2.2.setCell (p := ⟨w.heap.size, 0, none⟩) (Nat.le_refl _) _).setCell (p := ⟨w.heap.size, 1, none⟩) (Nat.le_refl _) _).setCell (p := ⟨w.heap.size, 2, none⟩) (Nat.le_refl _) _).setCell (p := ⟨w.heap.size, 3, none⟩) (Nat.le_refl _) _)⟩
end Go.Proofs.YtjokcagggmjgmaaGreat
