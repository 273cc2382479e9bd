/-
  Texts that the proof of EditDoes leans on, part 7: contracts of functions, and plain laws.
-/
import Derived.Test.YtjokcagggmjgmaaGreatMEditDoes6
import Derived.ScopeJumps
import Derived.WalkMore
import Derived.Deep.Slices
import Derived.Deep.Fields
import Derived.ChangeSame
import Derived.ProofKit
import Derived.OpenShut
/-! ThenG -/
namespace Go.Proofs.YtjokcagggmjgmaaGreat
open Go.RowKit
set_option linter.unusedVariables false
set_option linter.unusedSimpArgs false

/-- what the closure says of a pair -/
def TellP (W : World) (B : Nat) (o : List Ch) (p : Option Ch × Option Ch) (e : Ending) (w' : World) : Prop :=
  e = .returned (.bool (fitC p)) ∧ (fitC p = true → InvT W B (o ++ (combC p).toList) w') ∧ Below W.heap.size W w'

theorem cells_setCell {w : World} {b k : Nat} {cur : Array Value} {u : Value} {t : TypeId} {fr : Nat × Nat} (h : w.heap[b]? = some (.cells cur t fr)) : (w.setCell ⟨b, k, none⟩ u).heap[b]? = some (.cells (cur.setIfInBounds k u) t fr) := by
  have hlt := lt_of_block h
  have h' : w.heap[b] = .cells cur t fr := by simpa [Array.getElem?_eq_getElem hlt] using h
  show (w.heap.modify b _)[b]? = _
  rw [Array.getElem?_eq_getElem (by simpa using hlt), Array.getElem_modify_self, h']
  rfl
theorem store5 {w3 : World} {g : Nat} (hg : w3.heap[g]? = some Zcells) (a b c d e : Value) :
    (((((w3.setCell ⟨g, 0, none⟩ a).setCell ⟨g, 1, none⟩ b).setCell ⟨g, 2, none⟩ c).setCell ⟨g, 3, none⟩ d).setCell ⟨g, 4, none⟩ e).heap[g]? = some (.cells #[a, b, c, d, e] 83 (0, 0)) ∧
    (∀ k, k ≠ g → (((((w3.setCell ⟨g, 0, none⟩ a).setCell ⟨g, 1, none⟩ b).setCell ⟨g, 2, none⟩ c).setCell ⟨g, 3, none⟩ d).setCell ⟨g, 4, none⟩ e).heap[k]? = w3.heap[k]?) ∧
    (∀ B, B ≤ g → Below B w3 (((((w3.setCell ⟨g, 0, none⟩ a).setCell ⟨g, 1, none⟩ b).setCell ⟨g, 2, none⟩ c).setCell ⟨g, 3, none⟩ d).setCell ⟨g, 4, none⟩ e)) := by
  refine ⟨?_, fun k hk => ?_, fun B hB => ?_⟩
  · have := cells_setCell (k := 4) (u := e) (cells_setCell (k := 3) (u := d) (cells_setCell (k := 2) (u := c) (cells_setCell (k := 1) (u := b) (cells_setCell (k := 0) (u := a) hg))))
    exact this
  · repeat rw [Below.heap_setCell _ _ _ _ hk]
  · exact (((((Below.refl B w3).setCell hB _).setCell hB _).setCell hB _).setCell hB _).setCell hB _

theorem InvT.bel {W w : World} {B : Nat} {o : List Ch} (h : InvT W B o w) : Below W.heap.size W w := let ⟨_, _, _, h⟩ := h; h
theorem InvT.below {W w w' : World} {B : Nat} {o : List Ch} (h : InvT W B o w) (hB : B < w.heap.size) (hb : Below w.heap.size w w') : InvT W B o w' :=
  let ⟨vo, h1, h2, h3⟩ := h
  ⟨vo, (hb.block B hB).trans h1, (h2.below hb).mono fun u p h => h.below hb, h3.trans (hb.mono h3.size)⟩
set_option maxRecDepth 8000 in
set_option maxHeartbeats 4000000 in
theorem tellXY (W w : World) (B : Nat) (o : List Ch) (x y : Ch) (px py : Value) (hW : W.heap.size ≤ B) (hi : InvT W B o w) (hx : PtrC w px (some x)) (hy : PtrC w py (some y)) (h1 : 1 ≤ x.p.length) (h40 : x.p.length ≤ 40) (hol : o.length ≤ 10000) :
    Calls Tryz.prog 90 #[px, py, .pointer (some ⟨B, 0, none⟩)] w fun e w' => TellP W B o (some x, some y) e w' := by
  obtain ⟨bx, ox, rfl, vx, k0, hv, k1, k2, k3, k4⟩ := hx
  obtain ⟨by1, oy, rfl, vy, m0, hvy, m1, m2, m3, m4⟩ := hy
  have HV := Lib.hid hv
  obtain ⟨Ax, cx, rfl, hx0⟩ := RdU.point hv
  clear hv hvy hx0 m0
  obtain ⟨vo, hblk, hown, hbW⟩ := hi
  have kb := cell_of_one hblk
  have HI := Lib.hid (And.intro hblk (And.intro hown (And.intro hbW (And.intro hW hol))))
  have hlB : B < w.heap.size := lt_of_block hblk
  have hlx : bx < w.heap.size := World.block_lt_of_cell? w _ k0
  have hly : by1 < w.heap.size := World.block_lt_of_cell? w _ m1
  clear hblk hown hbW hW hol
  obtain ⟨xp, xhad, xhas, xold, xnew⟩ := x
  obtain ⟨yp, yhad, yhas, yold, ynew⟩ := y
  simp only at k0 k1 k2 k3 k4 m1 m2 m3 m4 h1 h40
  have HO := Lib.hid (show ∀ w', RdU w' (.slice Ax xp.length cx) (pti xp) → Calls Tryz.prog 60 #[.agg #[.slice Ax xp.length cx, .bool xhad, .bool yhas, .int .u64 (xold : Nat), .int .u64 (ynew : Nat)]] w' fun e w'' => OwnP w' ⟨xp, xhad, yhas, xold, ynew⟩ e w'' from fun w' h => own_any ⟨xp, xhad, yhas, xold, ynew⟩ _ w' h h1 h40)
  have HRi := Lib.hid (fun (v : Value) (w : World) => right_any v ⟨xp, xhad, yhas, xold, ynew⟩ w)
  simp only at HRi HV
  clear h1 h40
  obtain ⟨b4, e4⟩ : ∃ b, ((xnew : Int) != (yold : Int)) = b := ⟨_, rfl⟩
  have he4 : decide ((xnew : Int) ≠ (yold : Int)) = b4 := by rw [← e4]; by_cases e : (xnew : Int) = yold <;> simp [e]
  have HF := Lib.hid (show fitC (some (⟨xp, xhad, xhas, xold, xnew⟩ : Ch), some (⟨yp, yhad, yhas, yold, ynew⟩ : Ch)) = !(xhas != yhad || b4) by unfold fitC; simp only; rw [he4])
  have HCo := Lib.hid (show (combC (some (⟨xp, xhad, xhas, xold, xnew⟩ : Ch), some (⟨yp, yhad, yhas, yold, ynew⟩ : Ch))).toList = if (⟨xp, xhad, yhas, xold, ynew⟩ : Ch).right then [⟨xp, xhad, yhas, xold, ynew⟩] else [] by
    show (if (joinC _ _).right = true then some (joinC _ _) else none).toList = _
    unfold joinC
    split <;> rfl)
  clear he4
  obtain ⟨rr, hrr⟩ : ∃ rr, (⟨xp, xhad, yhas, xold, ynew⟩ : Ch).right = rr := ⟨_, rfl⟩
  rw [hrr] at HRi HCo
  clear hrr
  unfold TellP
  rw [HF.out]
  generalize (combC (some (⟨xp, xhad, xhas, xold, xnew⟩ : Ch), some (⟨yp, yhad, yhas, yold, ynew⟩ : Ch))).toList = cl at *
  clear HF
  cases xhas <;> cases yhad <;> cases b4
  all_goals
    go_enter Tryz.func90, Tryz.ntmps90
    go_wp2_with fail
    go_quiet (fail)
    go_wp2_with fail
  all_goals first
    | (go_ret
       have hbW := HI.out.2.2.1
       exact ⟨rfl, fun h => absurd h (by decide), by repeat (first | exact hbW | (refine Below.drew ?_) | (refine (Below.trans (b := w) ?_ ((drewN_below w _).mono hbW.size))))⟩)
    | skip
  all_goals
    refine wp_region_vals 23 [fun v _ => v = .pointer (some ⟨bx, ox, none⟩),
      fun v _ => v = .pointer (some ⟨bx, ox, none⟩),
      fun v _ => v = .pointer (some ⟨bx, ox, none⟩),
      fun v _ => v = .slice Ax xp.length cx,
      fun v _ => v = .pointer (some ⟨bx, ox, none⟩),
      fun v _ => v = .pointer (some ⟨bx, ox, none⟩),
      fun v _ => v = .pointer (some ⟨bx, ox + 1, none⟩),
      fun v _ => v = .bool xhad,
      fun v _ => v = .pointer (some ⟨by1, oy, none⟩),
      fun v _ => v = .pointer (some ⟨by1, oy, none⟩),
      fun v _ => v = .pointer (some ⟨by1, oy + 2, none⟩),
      fun v _ => v = .bool yhas,
      fun v _ => v = .pointer (some ⟨bx, ox, none⟩),
      fun v _ => v = .pointer (some ⟨bx, ox, none⟩),
      fun v _ => v = .pointer (some ⟨bx, ox + 3, none⟩),
      fun v _ => v = .int .u64 (xold : Nat),
      fun v _ => v = .pointer (some ⟨by1, oy, none⟩),
      fun v _ => v = .pointer (some ⟨by1, oy, none⟩),
      fun v _ => v = .pointer (some ⟨by1, oy + 4, none⟩),
      fun v _ => v = .int .u64 (ynew : Nat),
      fun v _ => v = .agg #[.slice Ax xp.length cx, .bool xhad, .bool yhas, .int .u64 (xold : Nat), .int .u64 (ynew : Nat)],
      fun v9 w9 => ∃ A9 n9 c9, v9 = .agg #[.slice A9 n9 c9, .bool xhad, .bool yhas, .int .u64 (xold : Nat), .int .u64 (ynew : Nat)] ∧ PtNew w9 (.slice A9 n9 c9) xp,
      fun v9 w9 => ∃ g, v9 = .pointer (some ⟨g, 0, none⟩) ∧ w.heap.size ≤ g ∧ w9.heap[g]? = some Zcells]
      (by kernel_rfl) (by kernel_rfl) (by kernel_rfl) (by kernel_rfl) ?_ ?_ ?_
    · intro V hV v w1 w2 h hb
      simp only [List.mem_cons, List.not_mem_nil, or_false] at hV
      rcases hV with rfl | rfl | rfl | rfl | rfl | rfl | rfl | rfl | rfl | rfl | rfl | rfl | rfl | rfl | rfl | rfl | rfl | rfl | rfl | rfl | rfl | rfl | rfl
      all_goals first | exact h | (first | (obtain ⟨A9, n9, c9, h1, h2⟩ := h; exact ⟨A9, n9, c9, h1, h2.below hb⟩) | (obtain ⟨g, h1, h2, h3⟩ := h; exact ⟨g, h1, h2, (hb.block g (Array.getElem?_eq_some_iff.1 h3).1).trans h3⟩))
    · intro i o hi ho
      match i, hi with
      | 0, _ =>
      obtain rfl := Option.some.inj ho
      intro a1 w1 K hk hK
      have e0 : a1.tmps.getD 0 undef = .pointer (some ⟨bx, ox, none⟩) := hk.same 0 (by simp)
      simp [Region.wanted, Oper.wp, Act.eval, go_sem, e0, k0, k1, k3, m2, m4]
      exact hK _ _ (Below.refl _ _) rfl
      | 1, _ =>
      obtain rfl := Option.some.inj ho
      intro a1 w1 K hk hK
      have d7 : a1.tmps.getD 7 undef = .pointer (some ⟨bx, ox, none⟩) := hk.deps ⟨0, .data⟩ (by simp) rfl _ _ rfl rfl
      simp [Region.wanted, Oper.wp, Act.eval, go_sem, d7, k0, k1, k3, m2, m4]
      exact hK _ _ (Below.refl _ _) rfl
      | 2, _ =>
      obtain rfl := Option.some.inj ho
      intro a1 w1 K hk hK
      have d8 : a1.tmps.getD 8 undef = .pointer (some ⟨bx, ox, none⟩) := hk.deps ⟨1, .data⟩ (by simp) rfl _ _ rfl rfl
      simp [Region.wanted, Oper.wp, Act.eval, go_sem, d8, k0, k1, k3, m2, m4]
      exact hK _ _ (Below.refl _ _) rfl
      | 3, _ =>
      obtain rfl := Option.some.inj ho
      intro a1 w1 K hk hK
      have d9 : a1.tmps.getD 9 undef = .pointer (some ⟨bx, ox, none⟩) := hk.deps ⟨2, .data⟩ (by simp) rfl _ _ rfl rfl
      have c0 : w1.cell? ⟨bx, ox, none⟩ = some (.slice Ax xp.length cx) := Below.keeps hk.ext _ _ (by simp [go_sem, k0, k1, k3, m2, m4])
      have c1 : w1.cell? ⟨bx, ox + 1, none⟩ = some (.bool xhad) := Below.keeps hk.ext _ _ (by simp [go_sem, k0, k1, k3, m2, m4])
      have c2 : w1.cell? ⟨bx, ox + 3, none⟩ = some (.int .u64 (xold : Nat)) := Below.keeps hk.ext _ _ (by simp [go_sem, k0, k1, k3, m2, m4])
      have c3 : w1.cell? ⟨by1, oy + 2, none⟩ = some (.bool yhas) := Below.keeps hk.ext _ _ (by simp [go_sem, k0, k1, k3, m2, m4])
      have c4 : w1.cell? ⟨by1, oy + 4, none⟩ = some (.int .u64 (ynew : Nat)) := Below.keeps hk.ext _ _ (by simp [go_sem, k0, k1, k3, m2, m4])
      simp [Region.wanted, Oper.wp, Act.eval, go_sem, d9, c0, c1, c2, c3, c4, k0, k1, k3, m2, m4]
      exact hK _ _ (Below.refl _ _) rfl
      | 4, _ =>
      obtain rfl := Option.some.inj ho
      intro a1 w1 K hk hK
      have e0 : a1.tmps.getD 0 undef = .pointer (some ⟨bx, ox, none⟩) := hk.same 0 (by simp)
      simp [Region.wanted, Oper.wp, Act.eval, go_sem, e0, k0, k1, k3, m2, m4]
      exact hK _ _ (Below.refl _ _) rfl
      | 5, _ =>
      obtain rfl := Option.some.inj ho
      intro a1 w1 K hk hK
      have d11 : a1.tmps.getD 11 undef = .pointer (some ⟨bx, ox, none⟩) := hk.deps ⟨4, .data⟩ (by simp) rfl _ _ rfl rfl
      simp [Region.wanted, Oper.wp, Act.eval, go_sem, d11, k0, k1, k3, m2, m4]
      exact hK _ _ (Below.refl _ _) rfl
      | 6, _ =>
      obtain rfl := Option.some.inj ho
      intro a1 w1 K hk hK
      have d12 : a1.tmps.getD 12 undef = .pointer (some ⟨bx, ox, none⟩) := hk.deps ⟨5, .data⟩ (by simp) rfl _ _ rfl rfl
      simp [Region.wanted, Oper.wp, Act.eval, go_sem, d12, k0, k1, k3, m2, m4]
      exact hK _ _ (Below.refl _ _) rfl
      | 7, _ =>
      obtain rfl := Option.some.inj ho
      intro a1 w1 K hk hK
      have d13 : a1.tmps.getD 13 undef = .pointer (some ⟨bx, ox + 1, none⟩) := hk.deps ⟨6, .data⟩ (by simp) rfl _ _ rfl rfl
      have c0 : w1.cell? ⟨bx, ox, none⟩ = some (.slice Ax xp.length cx) := Below.keeps hk.ext _ _ (by simp [go_sem, k0, k1, k3, m2, m4])
      have c1 : w1.cell? ⟨bx, ox + 1, none⟩ = some (.bool xhad) := Below.keeps hk.ext _ _ (by simp [go_sem, k0, k1, k3, m2, m4])
      have c2 : w1.cell? ⟨bx, ox + 3, none⟩ = some (.int .u64 (xold : Nat)) := Below.keeps hk.ext _ _ (by simp [go_sem, k0, k1, k3, m2, m4])
      have c3 : w1.cell? ⟨by1, oy + 2, none⟩ = some (.bool yhas) := Below.keeps hk.ext _ _ (by simp [go_sem, k0, k1, k3, m2, m4])
      have c4 : w1.cell? ⟨by1, oy + 4, none⟩ = some (.int .u64 (ynew : Nat)) := Below.keeps hk.ext _ _ (by simp [go_sem, k0, k1, k3, m2, m4])
      simp [Region.wanted, Oper.wp, Act.eval, go_sem, d13, c0, c1, c2, c3, c4, k0, k1, k3, m2, m4]
      exact hK _ _ (Below.refl _ _) rfl
      | 8, _ =>
      obtain rfl := Option.some.inj ho
      intro a1 w1 K hk hK
      have e1 : a1.tmps.getD 1 undef = .pointer (some ⟨by1, oy, none⟩) := hk.same 1 (by simp)
      simp [Region.wanted, Oper.wp, Act.eval, go_sem, e1, k0, k1, k3, m2, m4]
      exact hK _ _ (Below.refl _ _) rfl
      | 9, _ =>
      obtain rfl := Option.some.inj ho
      intro a1 w1 K hk hK
      have d15 : a1.tmps.getD 15 undef = .pointer (some ⟨by1, oy, none⟩) := hk.deps ⟨8, .data⟩ (by simp) rfl _ _ rfl rfl
      simp [Region.wanted, Oper.wp, Act.eval, go_sem, d15, k0, k1, k3, m2, m4]
      exact hK _ _ (Below.refl _ _) rfl
      | 10, _ =>
      obtain rfl := Option.some.inj ho
      intro a1 w1 K hk hK
      have d16 : a1.tmps.getD 16 undef = .pointer (some ⟨by1, oy, none⟩) := hk.deps ⟨9, .data⟩ (by simp) rfl _ _ rfl rfl
      simp [Region.wanted, Oper.wp, Act.eval, go_sem, d16, k0, k1, k3, m2, m4]
      exact hK _ _ (Below.refl _ _) rfl
      | 11, _ =>
      obtain rfl := Option.some.inj ho
      intro a1 w1 K hk hK
      have d17 : a1.tmps.getD 17 undef = .pointer (some ⟨by1, oy + 2, none⟩) := hk.deps ⟨10, .data⟩ (by simp) rfl _ _ rfl rfl
      have c0 : w1.cell? ⟨bx, ox, none⟩ = some (.slice Ax xp.length cx) := Below.keeps hk.ext _ _ (by simp [go_sem, k0, k1, k3, m2, m4])
      have c1 : w1.cell? ⟨bx, ox + 1, none⟩ = some (.bool xhad) := Below.keeps hk.ext _ _ (by simp [go_sem, k0, k1, k3, m2, m4])
      have c2 : w1.cell? ⟨bx, ox + 3, none⟩ = some (.int .u64 (xold : Nat)) := Below.keeps hk.ext _ _ (by simp [go_sem, k0, k1, k3, m2, m4])
      have c3 : w1.cell? ⟨by1, oy + 2, none⟩ = some (.bool yhas) := Below.keeps hk.ext _ _ (by simp [go_sem, k0, k1, k3, m2, m4])
      have c4 : w1.cell? ⟨by1, oy + 4, none⟩ = some (.int .u64 (ynew : Nat)) := Below.keeps hk.ext _ _ (by simp [go_sem, k0, k1, k3, m2, m4])
      simp [Region.wanted, Oper.wp, Act.eval, go_sem, d17, c0, c1, c2, c3, c4, k0, k1, k3, m2, m4]
      exact hK _ _ (Below.refl _ _) rfl
      | 12, _ =>
      obtain rfl := Option.some.inj ho
      intro a1 w1 K hk hK
      have e0 : a1.tmps.getD 0 undef = .pointer (some ⟨bx, ox, none⟩) := hk.same 0 (by simp)
      simp [Region.wanted, Oper.wp, Act.eval, go_sem, e0, k0, k1, k3, m2, m4]
      exact hK _ _ (Below.refl _ _) rfl
      | 13, _ =>
      obtain rfl := Option.some.inj ho
      intro a1 w1 K hk hK
      have d19 : a1.tmps.getD 19 undef = .pointer (some ⟨bx, ox, none⟩) := hk.deps ⟨12, .data⟩ (by simp) rfl _ _ rfl rfl
      simp [Region.wanted, Oper.wp, Act.eval, go_sem, d19, k0, k1, k3, m2, m4]
      exact hK _ _ (Below.refl _ _) rfl
      | 14, _ =>
      obtain rfl := Option.some.inj ho
      intro a1 w1 K hk hK
      have d20 : a1.tmps.getD 20 undef = .pointer (some ⟨bx, ox, none⟩) := hk.deps ⟨13, .data⟩ (by simp) rfl _ _ rfl rfl
      simp [Region.wanted, Oper.wp, Act.eval, go_sem, d20, k0, k1, k3, m2, m4]
      exact hK _ _ (Below.refl _ _) rfl
      | 15, _ =>
      obtain rfl := Option.some.inj ho
      intro a1 w1 K hk hK
      have d21 : a1.tmps.getD 21 undef = .pointer (some ⟨bx, ox + 3, none⟩) := hk.deps ⟨14, .data⟩ (by simp) rfl _ _ rfl rfl
      have c0 : w1.cell? ⟨bx, ox, none⟩ = some (.slice Ax xp.length cx) := Below.keeps hk.ext _ _ (by simp [go_sem, k0, k1, k3, m2, m4])
      have c1 : w1.cell? ⟨bx, ox + 1, none⟩ = some (.bool xhad) := Below.keeps hk.ext _ _ (by simp [go_sem, k0, k1, k3, m2, m4])
      have c2 : w1.cell? ⟨bx, ox + 3, none⟩ = some (.int .u64 (xold : Nat)) := Below.keeps hk.ext _ _ (by simp [go_sem, k0, k1, k3, m2, m4])
      have c3 : w1.cell? ⟨by1, oy + 2, none⟩ = some (.bool yhas) := Below.keeps hk.ext _ _ (by simp [go_sem, k0, k1, k3, m2, m4])
      have c4 : w1.cell? ⟨by1, oy + 4, none⟩ = some (.int .u64 (ynew : Nat)) := Below.keeps hk.ext _ _ (by simp [go_sem, k0, k1, k3, m2, m4])
      simp [Region.wanted, Oper.wp, Act.eval, go_sem, d21, c0, c1, c2, c3, c4, k0, k1, k3, m2, m4]
      exact hK _ _ (Below.refl _ _) rfl
      | 16, _ =>
      obtain rfl := Option.some.inj ho
      intro a1 w1 K hk hK
      have e1 : a1.tmps.getD 1 undef = .pointer (some ⟨by1, oy, none⟩) := hk.same 1 (by simp)
      simp [Region.wanted, Oper.wp, Act.eval, go_sem, e1, k0, k1, k3, m2, m4]
      exact hK _ _ (Below.refl _ _) rfl
      | 17, _ =>
      obtain rfl := Option.some.inj ho
      intro a1 w1 K hk hK
      have d23 : a1.tmps.getD 23 undef = .pointer (some ⟨by1, oy, none⟩) := hk.deps ⟨16, .data⟩ (by simp) rfl _ _ rfl rfl
      simp [Region.wanted, Oper.wp, Act.eval, go_sem, d23, k0, k1, k3, m2, m4]
      exact hK _ _ (Below.refl _ _) rfl
      | 18, _ =>
      obtain rfl := Option.some.inj ho
      intro a1 w1 K hk hK
      have d24 : a1.tmps.getD 24 undef = .pointer (some ⟨by1, oy, none⟩) := hk.deps ⟨17, .data⟩ (by simp) rfl _ _ rfl rfl
      simp [Region.wanted, Oper.wp, Act.eval, go_sem, d24, k0, k1, k3, m2, m4]
      exact hK _ _ (Below.refl _ _) rfl
      | 19, _ =>
      obtain rfl := Option.some.inj ho
      intro a1 w1 K hk hK
      have d25 : a1.tmps.getD 25 undef = .pointer (some ⟨by1, oy + 4, none⟩) := hk.deps ⟨18, .data⟩ (by simp) rfl _ _ rfl rfl
      have c0 : w1.cell? ⟨bx, ox, none⟩ = some (.slice Ax xp.length cx) := Below.keeps hk.ext _ _ (by simp [go_sem, k0, k1, k3, m2, m4])
      have c1 : w1.cell? ⟨bx, ox + 1, none⟩ = some (.bool xhad) := Below.keeps hk.ext _ _ (by simp [go_sem, k0, k1, k3, m2, m4])
      have c2 : w1.cell? ⟨bx, ox + 3, none⟩ = some (.int .u64 (xold : Nat)) := Below.keeps hk.ext _ _ (by simp [go_sem, k0, k1, k3, m2, m4])
      have c3 : w1.cell? ⟨by1, oy + 2, none⟩ = some (.bool yhas) := Below.keeps hk.ext _ _ (by simp [go_sem, k0, k1, k3, m2, m4])
      have c4 : w1.cell? ⟨by1, oy + 4, none⟩ = some (.int .u64 (ynew : Nat)) := Below.keeps hk.ext _ _ (by simp [go_sem, k0, k1, k3, m2, m4])
      simp [Region.wanted, Oper.wp, Act.eval, go_sem, d25, c0, c1, c2, c3, c4, k0, k1, k3, m2, m4]
      exact hK _ _ (Below.refl _ _) rfl
      | 20, _ =>
      obtain rfl := Option.some.inj ho
      intro a1 w1 K hk hK
      have d10 : a1.tmps.getD 10 undef = .slice Ax xp.length cx := hk.deps ⟨3, .data⟩ (by simp) rfl _ _ rfl rfl
      have d10x : a1.tmps[10]?.getD undef = .slice Ax xp.length cx := by rw [← d10]; simp
      have d14 : a1.tmps.getD 14 undef = .bool xhad := hk.deps ⟨7, .data⟩ (by simp) rfl _ _ rfl rfl
      have d14x : a1.tmps[14]?.getD undef = .bool xhad := by rw [← d14]; simp
      have d18 : a1.tmps.getD 18 undef = .bool yhas := hk.deps ⟨11, .data⟩ (by simp) rfl _ _ rfl rfl
      have d18x : a1.tmps[18]?.getD undef = .bool yhas := by rw [← d18]; simp
      have d22 : a1.tmps.getD 22 undef = .int .u64 (xold : Nat) := hk.deps ⟨15, .data⟩ (by simp) rfl _ _ rfl rfl
      have d22x : a1.tmps[22]?.getD undef = .int .u64 (xold : Nat) := by rw [← d22]; simp
      have d26 : a1.tmps.getD 26 undef = .int .u64 (ynew : Nat) := hk.deps ⟨19, .data⟩ (by simp) rfl _ _ rfl rfl
      have d26x : a1.tmps[26]?.getD undef = .int .u64 (ynew : Nat) := by rw [← d26]; simp
      simp [Region.wanted, Oper.wp, Act.eval, go_sem, d10, d10x, d14, d14x, d18, d18x, d22, d22x, d26, d26x, k0, k1, k3, m2, m4]
      exact hK _ _ (Below.refl _ _) rfl
      | 21, _ =>
      obtain rfl := Option.some.inj ho
      intro a1 w1 K hk hK
      have d27 : a1.tmps.getD 27 undef = .agg #[.slice Ax xp.length cx, .bool xhad, .bool yhas, .int .u64 (xold : Nat), .int .u64 (ynew : Nat)] := hk.deps ⟨20, .data⟩ (by simp) rfl _ _ rfl rfl
      simp [Region.wanted, Oper.wp, Act.eval, go_sem, d27, k0, k1, k3, m2, m4]
      refine (HO.out _ (HV.out.below (below_trans (by repeat (first | exact Below.refl _ _ | assumption | (refine Below.drew ?_) | (refine below_drewN' ?_ _) | (refine below_alloc' ?_ _))) hk.ext))).mono ?_
      rintro e w2 ⟨A9, n9, c9, rfl, hp9, hb9⟩
      exact hK _ _ hb9 ⟨A9, n9, c9, rfl, hp9⟩
      | 22, _ =>
      obtain rfl := Option.some.inj ho
      intro a1 w1 K hk hK
      have hsz := hk.ext.size
      simp [Region.wanted, Oper.wp, Act.eval, go_sem, k0, k1, k3, m2, m4]
      exact hK _ _ (by repeat (first | exact Below.refl _ _ | assumption | (refine Below.drew ?_) | (refine below_drewN' ?_ _) | (refine below_alloc' ?_ _))) ⟨w1.heap.size, rfl, by simp at hsz; omega, heap_alloc_new _ _⟩
      | k + 23, hk => exact absurd hk (by omega)
    · intro vs w3 hl hb3 hv
      match vs, hl with
      | [v0, v1, v2, v3, v4, v5, v6, v7, v8, v9, v10, v11, v12, v13, v14, v15, v16, v17, v18, v19, v20, v21, v22], _ =>
      obtain rfl : v0 = .pointer (some ⟨bx, ox, none⟩) := hv 0 (by omega)
      obtain rfl : v1 = .pointer (some ⟨bx, ox, none⟩) := hv 1 (by omega)
      obtain rfl : v2 = .pointer (some ⟨bx, ox, none⟩) := hv 2 (by omega)
      obtain rfl : v3 = .slice Ax xp.length cx := hv 3 (by omega)
      obtain rfl : v4 = .pointer (some ⟨bx, ox, none⟩) := hv 4 (by omega)
      obtain rfl : v5 = .pointer (some ⟨bx, ox, none⟩) := hv 5 (by omega)
      obtain rfl : v6 = .pointer (some ⟨bx, ox + 1, none⟩) := hv 6 (by omega)
      obtain rfl : v7 = .bool xhad := hv 7 (by omega)
      obtain rfl : v8 = .pointer (some ⟨by1, oy, none⟩) := hv 8 (by omega)
      obtain rfl : v9 = .pointer (some ⟨by1, oy, none⟩) := hv 9 (by omega)
      obtain rfl : v10 = .pointer (some ⟨by1, oy + 2, none⟩) := hv 10 (by omega)
      obtain rfl : v11 = .bool yhas := hv 11 (by omega)
      obtain rfl : v12 = .pointer (some ⟨bx, ox, none⟩) := hv 12 (by omega)
      obtain rfl : v13 = .pointer (some ⟨bx, ox, none⟩) := hv 13 (by omega)
      obtain rfl : v14 = .pointer (some ⟨bx, ox + 3, none⟩) := hv 14 (by omega)
      obtain rfl : v15 = .int .u64 (xold : Nat) := hv 15 (by omega)
      obtain rfl : v16 = .pointer (some ⟨by1, oy, none⟩) := hv 16 (by omega)
      obtain rfl : v17 = .pointer (some ⟨by1, oy, none⟩) := hv 17 (by omega)
      obtain rfl : v18 = .pointer (some ⟨by1, oy + 4, none⟩) := hv 18 (by omega)
      obtain rfl : v19 = .int .u64 (ynew : Nat) := hv 19 (by omega)
      obtain rfl : v20 = .agg #[.slice Ax xp.length cx, .bool xhad, .bool yhas, .int .u64 (xold : Nat), .int .u64 (ynew : Nat)] := hv 20 (by omega)
      have q21 : ∃ A9 n9 c9, v21 = .agg #[.slice A9 n9 c9, .bool xhad, .bool yhas, .int .u64 (xold : Nat), .int .u64 (ynew : Nat)] ∧ PtNew w3 (.slice A9 n9 c9) xp := hv 21 (by omega)
      have q22 : ∃ g, v22 = .pointer (some ⟨g, 0, none⟩) ∧ w.heap.size ≤ g ∧ w3.heap[g]? = some Zcells := hv 22 (by omega)
      clear hv
      obtain ⟨A9, n9, c9, rfl, hpt⟩ := q21
      obtain ⟨g, rfl, hgw, hgz⟩ := q22
      simp only [putAll, List.take_succ_cons, List.take_zero, List.drop_succ_cons, List.drop_zero, Act.put, List.setIfInBounds_toArray, List.set_cons_succ, List.set_cons_zero]
      have HX3 := Lib.hid (below_trans (drewN_below w _) hb3)
      have zc : (w3.cell? ⟨g, 0, none⟩ = some (.slice none 0 0) ∧ w3.cell? ⟨g, 1, none⟩ = some (.bool false) ∧ w3.cell? ⟨g, 2, none⟩ = some (.bool false) ∧ w3.cell? ⟨g, 3, none⟩ = some (.int .u64 0) ∧ w3.cell? ⟨g, 4, none⟩ = some (.int .u64 0)) := by
        unfold Zcells at hgz
        refine ⟨?_, ?_, ?_, ?_, ?_⟩ <;> simp [World.cell?, hgz]
      obtain ⟨z0, z1, z2, z3, z4⟩ := zc
      have zf : ∀ k, w3.frozen? ⟨g, k, none⟩ = false := by unfold Zcells at hgz; intro k; simp [World.frozen?, hgz]
      have HZ := Lib.hid (And.intro hgz (And.intro hgw hpt))
      clear hgz hgw hpt hb3 k0 k1 k3 m2 m4 kb k2 k4 m1 m3
      go_wp2_with fail
      have S := store5 HZ.out.1 (.slice A9 n9 c9) (.bool xhad) (.bool yhas) (.int .u64 (xold : Nat)) (.int .u64 (ynew : Nat))
      generalize (((((w3.setCell ⟨g, 0, none⟩ (.slice A9 n9 c9)).setCell ⟨g, 1, none⟩ (.bool xhad)).setCell ⟨g, 2, none⟩ (.bool yhas)).setCell ⟨g, 3, none⟩ (.int .u64 (xold : Nat))).setCell ⟨g, 4, none⟩ (.int .u64 (ynew : Nat))) = w4 at *
      obtain ⟨s1, s2, s3⟩ := S
      have HX4 := Lib.hid (HX3.out.trans (s3 _ HZ.out.2.1))
      have HP4 := Lib.hid (HZ.out.2.2.keepBlock (w' := w4) fun b cur fr hbk => s2 b (by
        intro e
        rw [e, HZ.out.1] at hbk
        unfold Zcells at hbk
        injection hbk with hbk
        injection hbk with _ hbk _
        exact absurd hbk (by decide)))
      have t0 : w4.cell? ⟨g, 0, none⟩ = some (.slice A9 n9 c9) := by simp [World.cell?, s1]
      have t1 : w4.cell? ⟨g, 1, none⟩ = some (.bool xhad) := by simp [World.cell?, s1]
      have t2 : w4.cell? ⟨g, 2, none⟩ = some (.bool yhas) := by simp [World.cell?, s1]
      have t3 : w4.cell? ⟨g, 3, none⟩ = some (.int .u64 (xold : Nat)) := by simp [World.cell?, s1]
      have t4 : w4.cell? ⟨g, 4, none⟩ = some (.int .u64 (ynew : Nat)) := by simp [World.cell?, s1]
      have tl : g < w4.heap.size := lt_of_block s1
      have tb : w4.cell? ⟨B, 0, none⟩ = some vo := cell_of_one ((HX4.out.block B hlB).trans HI.out.1)
      have tlB : B < w4.heap.size := Nat.lt_of_lt_of_le hlB HX4.out.size
      clear s1 s2 s3 z0 z1 z2 z3 z4 zf HX3 HZ
      refine (HRi.out _ _).mono ?_
      rintro e w5 ⟨rfl, rfl⟩
      cases rr with
      | true =>
        rw [if_pos rfl] at HCo
        go_wp2_with ((at_builtin; refine wpList_append_C (Pt := PtNew w4) rfl (.tmp 31) (.tmp 33) rfl W o ⟨xp, xhad, yhas, xold, ynew⟩ ?_ ?_ ?_ ?_ ?_ ?_))
        · exact fun u p h => h.rd.below (by repeat (first | exact Below.refl _ _ | assumption | (refine Below.drew ?_) | (refine below_drewN' ?_ _) | (refine below_alloc' ?_ _)))
        · exact ((HI.out.2.1.below HX4.out).mono fun u p h => h.below HX4.out).below (by repeat (first | exact Below.refl _ _ | assumption | (refine Below.drew ?_) | (refine below_drewN' ?_ _) | (refine below_alloc' ?_ _)))
        · exact ⟨_, _, _, rfl, by simp [go_sem], HP4.out, by simp [go_sem], by simp [go_sem], by simp [go_sem], by simp [go_sem]⟩
        · have := HX4.out.size; have := HI.out.2.2.1.size; simp; omega
        · have := HI.out.2.2.2.2; omega
        intro v6 w6 hown6 hg6
        obtain ⟨A6, n6, c6, rfl⟩ := hown6.shape
        obtain ⟨hb6, hI6⟩ := InvT.push HI.out.2.2.2.1 (vo := vo) (o := o) (o' := o ++ [⟨xp, xhad, yhas, xold, ynew⟩]) (by
          rw [Below.heap_alloc _ _ _ (by simp; omega), Below.heap_alloc _ _ _ tlB]
          exact (HX4.out.block B hlB).trans HI.out.1) ((((HI.out.2.1.below HX4.out).mono fun u p h => h.below HX4.out).below (by repeat (first | exact Below.refl _ _ | assumption | (refine Below.drew ?_) | (refine below_drewN' ?_ _) | (refine below_alloc' ?_ _)))).mono fun u p h => h.below (by repeat (first | exact Below.refl _ _ | assumption | (refine Below.drew ?_) | (refine below_drewN' ?_ _) | (refine below_alloc' ?_ _)))) ((HI.out.2.2.1.trans (HX4.out.mono HI.out.2.2.1.size)).trans ((show Below w4.heap.size w4 _ from (by repeat (first | exact Below.refl _ _ | assumption | (refine Below.drew ?_) | (refine below_drewN' ?_ _) | (refine below_alloc' ?_ _)))).mono (by have := HX4.out.size; have := HI.out.2.2.1.size; omega))) (hown6.mono fun u p h => h.below (by repeat (first | exact Below.refl _ _ | assumption | (refine Below.drew ?_) | (refine below_drewN' ?_ _) | (refine below_alloc' ?_ _)))) hg6
        have c6 := cell_of_one hb6
        have f6 := free_of_one hb6
        have HI6 := Lib.hid hI6
        clear hown6 hg6 hb6 hI6 t0 t1 t2 t3 t4 tl tb tlB
        go_wp2_with fail
        go_ret
        exact ⟨rfl, fun _ => by rw [HCo.out]; exact HI6.out, HI6.out.bel⟩
      | false =>
        rw [if_neg (by simp)] at HCo
        have HI6 := Lib.hid (show InvT W B o w4 from ⟨vo, (HX4.out.block B hlB).trans HI.out.1, (HI.out.2.1.below HX4.out).mono fun u p h => h.below HX4.out, HI.out.2.2.1.trans (HX4.out.mono HI.out.2.2.1.size)⟩)
        clear t0 t1 t2 t3 t4 tl tb
        go_wp2_with fail
        go_ret
        exact ⟨rfl, fun _ => by rw [HCo.out, List.append_nil]; exact HI6.out.below tlB (by repeat (first | exact Below.refl _ _ | assumption | (refine Below.drew ?_) | (refine below_drewN' ?_ _) | (refine below_alloc' ?_ _))), (HI6.out.below tlB (by repeat (first | exact Below.refl _ _ | assumption | (refine Below.drew ?_) | (refine below_drewN' ?_ _) | (refine below_alloc' ?_ _)))).bel⟩
end Go.Proofs.YtjokcagggmjgmaaGreat
/-! Pairs -/
namespace Go.Proofs.YtjokcagggmjgmaaGreat
open Go.RowKit
set_option linter.unusedVariables false
set_option linter.unusedSimpArgs false

theorem Bdrew {W w : World} (h : Below W.heap.size W w) (n : Nat) : Below W.heap.size W (w.drewN n) := h.trans ((drewN_below w n).mono h.size)
theorem enters_func {P : Program} {f : FuncId} {fn : Func} (hf : P.funcs[f]? = some fn) (hname : (fn.name == "runtime.NumGoroutine") = false) (hb : fn.body.isSome = true) (args : Array Value) (w : World) :
    (callFunc f args).run P w = .ok (.enter f args) w := by
  have h1 : fn.name ≠ "runtime.NumGoroutine" := by simpa using hname
  obtain ⟨c, hc⟩ := Option.isSome_iff_exists.1 hb
  simp [callFunc, hf, h1, hc]
def lenOf : Value → Nat | .slice _ n _ => n | _ => 0

/-- the list without its first -/
theorem tailC {W : World} {b o c : Nat} {x : Ch} {l : List Ch} (h : RdC W (.slice (some ⟨b, o, none⟩) (l.length + 1) c) (x :: l) ∧ CapOk (.slice (some ⟨b, o, none⟩) (l.length + 1) c)) (hc : CapOk (.slice (some ⟨b, o, none⟩) (l.length + 1) c)) :
    RdC W (.slice (if c = 1 then some (⟨b, o, none⟩ : Addr) else some ⟨b, o + 5, none⟩) l.length (c - 1)) l ∧ CapOk (.slice (if c = 1 then some (⟨b, o, none⟩ : Addr) else some ⟨b, o + 5, none⟩) l.length (c - 1)) := by
  obtain ⟨A9, n9, c9, e9, h9, h10, h11⟩ := hc
  injection e9 with e1 e2 e3
  subst e1 e2 e3
  obtain ⟨⟨A, c', e, hx⟩, _⟩ := h
  injection e with e1 e2 e3
  subst e1 e3
  obtain ⟨b', o', ha, hch⟩ := hx (by simp)
  injection ha with ha
  injection ha with ha1 ha2
  subst ha1 ha2
  refine ⟨⟨_, _, rfl, fun hp => ⟨b, o + 5, by rw [if_neg (by omega)], fun j hj => ?_⟩⟩, _, _, _, rfl, by omega, by omega, fun h => ?_⟩
  · have := hch (j + 1) (by simpa using hj)
    rw [show o + 5 + j * 5 = o + (j + 1) * 5 by omega]
    simpa using this
  · split
    · exact ⟨_, _, rfl⟩
    · exact ⟨_, _, rfl⟩

/-- at the label: so much is done -/
structure PairsAt (W : World) (T : Option Ch × Option Ch → Bool) (Inv : List (Option Ch × Option Ch) → World → Prop) (a b : List Ch) (wa wb : Value) (n : Nat) (la lb : List Ch) (d : List (Option Ch × Option Ch)) (w' : World) : Prop where
  ra : RdC W wa la ∧ CapOk wa
  rb : RdC W wb lb ∧ CapOk wb
  le : la.length + lb.length ≤ n
  eq' : pairs a b = d ++ pairsL n la lb
  all : d.all T = true
  inv : Inv d w'
  bel : Below W.heap.size W w'
  sa : ∀ x ∈ la, x ∈ a
  sb : ∀ y ∈ lb, y ∈ b
  len : d.length + (la.length + lb.length) ≤ a.length + b.length

section
variable {W w' : World} {T : Option Ch × Option Ch → Bool} {Inv : List (Option Ch × Option Ch) → World → Prop} {a b ta tb : List Ch} {x y : Ch} {wa wb : Value} {n : Nat} {d : List (Option Ch × Option Ch)}
theorem PairsAt.done (h : PairsAt W T Inv a b wa wb n [] [] d w') : pairs a b = d := by
  have := h.eq'
  cases n <;> simpa [pairsL] using this
theorem PairsAt.onlyA (h : PairsAt W T Inv a b wa wb n (x :: ta) [] d w') : ∃ m, ta.length + 0 ≤ m ∧ pairs a b = d ++ (some x, none) :: pairsL m ta [] := by
  have := h.eq'
  have hle := h.le
  cases n with
  | zero => simp at hle
  | succ m => exact ⟨m, by simp at hle; omega, this⟩
theorem PairsAt.onlyB (h : PairsAt W T Inv a b wa wb n [] (y :: tb) d w') : ∃ m, 0 + tb.length ≤ m ∧ pairs a b = d ++ (none, some y) :: pairsL m [] tb := by
  have := h.eq'
  have hle := h.le
  cases n with
  | zero => simp at hle
  | succ m => exact ⟨m, by simp at hle; omega, this⟩
theorem PairsAt.lt (h : PairsAt W T Inv a b wa wb n (x :: ta) (y :: tb) d w') (hz : Zb.cmp x.p y.p < 0) : ∃ m, ta.length + (tb.length + 1) ≤ m ∧ pairs a b = d ++ (some x, none) :: pairsL m ta (y :: tb) := by
  have := h.eq'
  have hle := h.le
  cases n with
  | zero => simp at hle
  | succ m => exact ⟨m, by simp at hle; omega, by rw [this, pairsL, if_pos hz]⟩
theorem PairsAt.gt (h : PairsAt W T Inv a b wa wb n (x :: ta) (y :: tb) d w') (hz : ¬ Zb.cmp x.p y.p < 0) (hz2 : 0 < Zb.cmp x.p y.p) : ∃ m, ta.length + 1 + tb.length ≤ m ∧ pairs a b = d ++ (none, some y) :: pairsL m (x :: ta) tb := by
  have := h.eq'
  have hle := h.le
  cases n with
  | zero => simp at hle
  | succ m => exact ⟨m, by simp at hle; omega, by rw [this, pairsL, if_neg hz, if_pos hz2]⟩
theorem PairsAt.eq (h : PairsAt W T Inv a b wa wb n (x :: ta) (y :: tb) d w') (hz : ¬ Zb.cmp x.p y.p < 0) (hz2 : ¬ 0 < Zb.cmp x.p y.p) : ∃ m, ta.length + tb.length ≤ m ∧ pairs a b = d ++ (some x, some y) :: pairsL m ta tb := by
  have := h.eq'
  have hle := h.le
  cases n with
  | zero => simp at hle
  | succ m => exact ⟨m, by simp at hle; omega, by rw [this, pairsL, if_neg hz, if_neg hz2]⟩
end
/-- what pairs hands back -/
def PairsP (W : World) (T : Option Ch × Option Ch → Bool) (Inv : List (Option Ch × Option Ch) → World → Prop) (a b : List Ch) (e : Ending) (w' : World) : Prop :=
  e = .returned (.bool ((pairs a b).all T)) ∧ ((pairs a b).all T = true → Inv (pairs a b) w') ∧ Below W.heap.size W w'

set_option maxRecDepth 100000 in
set_option maxHeartbeats 4000000 in
theorem pairs_any (W w : World) (f : FuncId) (cap : Array Value) (T : Option Ch × Option Ch → Bool) (Inv : List (Option Ch × Option Ch) → World → Prop) (a b : List Ch) (va vb : Value) (k : Nat)
    (ra : Rt k a) (rb : Rt k b) (hk : 1 ≤ k ∧ k ≤ 16) (hn : a.length + b.length ≤ 1000) (HE : ∀ args w, (callFunc f args).run Tryz.prog w = .ok (.enter f args) w)
    (HT0 : ∀ d p px py w', Inv d w' → Below W.heap.size W w' → PtrC w' px p.1 → PtrC w' py p.2 → (∀ x, p.1 = some x → x ∈ a) → (∀ y, p.2 = some y → y ∈ b) → d.length ≤ 1000 → p ≠ (none, none) →
      Calls Tryz.prog f (#[px, py] ++ cap) w' fun e w'' => e = .returned (.bool (T p)) ∧ (T p = true → Inv (d ++ [p]) w'') ∧ Below W.heap.size W w'')
    (HD0 : ∀ d w n, Inv d w → Inv d (w.drewN n)) (hInv : Inv [] w) (hbW : Below W.heap.size W w) (hra : RdC W va a ∧ CapOk va) (hrb : RdC W vb b ∧ CapOk vb) :
    Calls Tryz.prog 89 #[va, vb, .func (.func f) #[] cap] w fun e w' => PairsP W T Inv a b e w' := by
  have H0 := Lib.hid (show PairsAt W T Inv a b va vb (a.length + b.length) a b [] w from ⟨hra, hrb, Nat.le_refl _, rfl, rfl, hInv, hbW, fun _ h => h, fun _ h => h, by simp⟩)
  have HT := Lib.hid HT0
  have HDr := Lib.hid HD0
  have RA := Lib.hid ra
  have RB := Lib.hid rb
  have HK := Lib.hid (And.intro hk.1 (And.intro hk.2 hn))
  clear HT0 HD0 ra rb hk hn hInv hbW hra hrb
  go_enter Tryz.func89, Tryz.ntmps89
  go_wp2_with fail
  refine wp_scope_jumps2 0 (fun a' w' => ∃ (wa wb : Value) (n : Nat) (la lb : List Ch) (d : List (Option Ch × Option Ch)) (u7 u8 u9 u10 u11 u12 u13 u14 u15 u16 u17 u18 u19 u20 u21 u22 u23 u24 u25 u26 u27 u28 u29 u30 u31 u32 u33 u34 u35 u36 u37 u38 u39 u40 u41 u42 u43 u44 u45 u46 u47 u48 u49 u50 u51 u52 u53 u54 : Value), a' = { tmps := #[wa, wb, .func (.func f) #[] cap, undef, undef, undef, .bool false, u7, u8, u9, u10, u11, u12, u13, u14, u15, u16, u17, u18, u19, u20, u21, u22, u23, u24, u25, u26, u27, u28, u29, u30, u31, u32, u33, u34, u35, u36, u37, u38, u39, u40, u41, u42, u43, u44, u45, u46, u47, u48, u49, u50, u51, u52, u53, u54], defers := [] } ∧ PairsAt W T Inv a b wa wb n la lb d w') (fun a' _ => lenOf (a'.tmps.getD 0 undef) + lenOf (a'.tmps.getD 1 undef)) rfl ?_ ?_
  · rintro a' w' ⟨wa, wb, n, la, lb, d, u7, u8, u9, u10, u11, u12, u13, u14, u15, u16, u17, u18, u19, u20, u21, u22, u23, u24, u25, u26, u27, u28, u29, u30, u31, u32, u33, u34, u35, u36, u37, u38, u39, u40, u41, u42, u43, u44, u45, u46, u47, u48, u49, u50, u51, u52, u53, u54, rfl, hP⟩
    cases la with
    | nil =>
      cases lb with
      | nil =>
        have HP := Lib.hid hP
        obtain ⟨⟨Aa, ca, rfl, _⟩, _⟩ := hP.ra
        obtain ⟨⟨Ab, cb, rfl, _⟩, _⟩ := hP.rb
        clear hP
        go_wp2_with fail
        simp only [Exit.jump]
        go_ret
        have e := HP.out.done
        unfold PairsP
        rw [e]
        exact ⟨by rw [HP.out.all] <;> rfl, fun _ => HP.out.inv, HP.out.bel⟩
      | cons y tb =>
        have HP := Lib.hid hP
        obtain ⟨⟨Aa, ca, ea, ga⟩, hca⟩ := hP.ra
        obtain ⟨⟨Ab, cb, eb, gb⟩, hcb⟩ := hP.rb
        subst ea eb
        simp only [List.length_cons, List.length_nil] at *
        obtain ⟨bb, ob, rfl, hb⟩ := gb (by omega)
        have hbt := hb 0 (by simp)
        simp only [Nat.zero_mul, Nat.add_zero, List.getElem_cons_zero] at hbt
        have hbtw := hbt.keep (Below.keeps hP.bel)
        obtain ⟨w0, m0, hw0, _⟩ := hbtw
        have hlb : bb < w'.heap.size := World.block_lt_of_cell? w' _ m0
        have HBt := Lib.hid hbt
        have h1b : 1 ≤ cb := by obtain ⟨A9, n9, c9, e9, h9, _⟩ := hcb; injection e9 with _ e1 e2; omega
        obtain ⟨Ay, hAy⟩ : ∃ Ay, (if cb = 1 then some (⟨bb, ob, none⟩ : Addr) else some ⟨bb, ob + 5, none⟩) = Ay := ⟨_, rfl⟩
        have HRB := Lib.hid (show RdC W (.slice Ay tb.length (cb - 1)) tb ∧ CapOk (.slice Ay tb.length (cb - 1)) from hAy ▸ tailC HP.out.rb hcb)
        obtain ⟨m, hm, hpe⟩ := HP.out.onlyB
        have HS := Lib.hid (And.intro hm hpe)
        have HTell := Lib.hid (fun (w'' : World) (hi : Inv d w'') (hbe : Below W.heap.size W w'') => HT.out d (none, some y) (.pointer none) (.pointer (some ⟨bb, ob, none⟩)) w'' hi hbe rfl (HBt.out.keep (Below.keeps hbe) |> fun h => ⟨_, _, rfl, h⟩) (fun z hz => by cases hz) (fun z hz => by injection hz with hz; subst hz; exact HP.out.sb _ (List.mem_cons_self ..)) (by have := HP.out.len; have := HK.out.2.2; simp at *; omega) (by simp))
        have sb1 : ((tb.length : Int) + 1 == 0) = false := by simp; omega
        have sb2 : (0 : Int) < (tb.length : Int) + 1 := by omega
        have sb3 : (1 : Int) ≤ (tb.length : Int) + 1 := by omega
        clear hP hca hcb hm hpe ga gb hb hbt hw0
        go_wp2_with fail
        go_quiet (fail)
        go_wp2_with fail
        have hbe := HP.out.bel
        refine (HTell.out _ (HDr.out _ _ _ HP.out.inv) (Bdrew hbe _)).mono ?_
        rintro e w5 ⟨rfl, hI5, hb5⟩
        have HI5 := Lib.hid (And.intro hI5 hb5)
        clear hI5 hb5 hbe
        generalize hT : T (none, some y) = t at *
        have HTt := Lib.hid hT
        clear hT
        cases t with
        | false =>
          go_wp2_with fail
          simp only [Exit.jump]
          go_ret
          have e : (pairs a b).all T = false := by rw [HS.out.2, List.all_append, List.all_cons, HTt.out]; simp
          exact ⟨by rw [e] <;> rfl, (fun h => by rw [e] at h; cases h), HI5.out.2⟩
        | true =>
          go_wp2_with fail
          go_step3
          refine ⟨rfl, ⟨_, _, m, [], tb, d ++ [(none, some y)], _, _, _, _, _, _, _, _, _, _, _, _, _, _, _, _, _, _, _, _, _, _, _, _, _, _, _, _, _, _, _, _, _, _, _, _, _, _, _, _, _, _, _, _, _, _, _, _, rfl, ⟨HP.out.ra, HRB.out, by (try simp only [List.length_cons, List.length_nil]); have := HS.out.1; omega, by rw [HS.out.2, List.append_assoc]; rfl, by rw [List.all_append, HP.out.all, List.all_cons, HTt.out]; rfl, HI5.out.1 (by first | rfl | trivial), HI5.out.2, fun z hz => HP.out.sa z (hz), fun z hz => HP.out.sb z (List.mem_cons_of_mem _ hz), by have := HP.out.len; (try simp only [List.length_cons, List.length_nil, List.length_append] at *); omega⟩⟩, ?_⟩
          simp [lenOf] <;> omega
    | cons x ta =>
      cases lb with
      | nil =>
        have HP := Lib.hid hP
        obtain ⟨⟨Aa, ca, ea, ga⟩, hca⟩ := hP.ra
        obtain ⟨⟨Ab, cb, eb, gb⟩, hcb⟩ := hP.rb
        subst ea eb
        simp only [List.length_cons, List.length_nil] at *
        obtain ⟨ba, oa, rfl, ha⟩ := ga (by omega)
        have hat := ha 0 (by simp)
        simp only [Nat.zero_mul, Nat.add_zero, List.getElem_cons_zero] at hat
        have hatw := hat.keep (Below.keeps hP.bel)
        obtain ⟨v0, k0, hv0, _⟩ := hatw
        have hla : ba < w'.heap.size := World.block_lt_of_cell? w' _ k0
        have HA := Lib.hid hat
        have h1a : 1 ≤ ca := by obtain ⟨A9, n9, c9, e9, h9, _⟩ := hca; injection e9 with _ e1 e2; omega
        obtain ⟨Ax, hAx⟩ : ∃ Ax, (if ca = 1 then some (⟨ba, oa, none⟩ : Addr) else some ⟨ba, oa + 5, none⟩) = Ax := ⟨_, rfl⟩
        have HRA := Lib.hid (show RdC W (.slice Ax ta.length (ca - 1)) ta ∧ CapOk (.slice Ax ta.length (ca - 1)) from hAx ▸ tailC HP.out.ra hca)
        obtain ⟨m, hm, hpe⟩ := HP.out.onlyA
        have HS := Lib.hid (And.intro hm hpe)
        have HTell := Lib.hid (fun (w'' : World) (hi : Inv d w'') (hbe : Below W.heap.size W w'') => HT.out d (some x, none) (.pointer (some ⟨ba, oa, none⟩)) (.pointer none) w'' hi hbe (HA.out.keep (Below.keeps hbe) |> fun h => ⟨_, _, rfl, h⟩) rfl (fun z hz => by injection hz with hz; subst hz; exact HP.out.sa _ (List.mem_cons_self ..)) (fun z hz => by cases hz) (by have := HP.out.len; have := HK.out.2.2; simp at *; omega) (by simp))
        have sa1 : ((ta.length : Int) + 1 == 0) = false := by simp; omega
        have sa2 : (0 : Int) < (ta.length : Int) + 1 := by omega
        have sa3 : (1 : Int) ≤ (ta.length : Int) + 1 := by omega
        clear hP hca hcb hm hpe ga gb ha hat hv0
        go_wp2_with fail
        go_quiet (fail)
        go_wp2_with fail
        have hbe := HP.out.bel
        refine (HTell.out _ (HDr.out _ _ _ HP.out.inv) (Bdrew hbe _)).mono ?_
        rintro e w5 ⟨rfl, hI5, hb5⟩
        have HI5 := Lib.hid (And.intro hI5 hb5)
        clear hI5 hb5 hbe
        generalize hT : T (some x, none) = t at *
        have HTt := Lib.hid hT
        clear hT
        cases t with
        | false =>
          go_wp2_with fail
          simp only [Exit.jump]
          go_ret
          have e : (pairs a b).all T = false := by rw [HS.out.2, List.all_append, List.all_cons, HTt.out]; simp
          exact ⟨by rw [e] <;> rfl, (fun h => by rw [e] at h; cases h), HI5.out.2⟩
        | true =>
          go_wp2_with fail
          go_step3
          refine ⟨rfl, ⟨_, _, m, ta, [], d ++ [(some x, none)], _, _, _, _, _, _, _, _, _, _, _, _, _, _, _, _, _, _, _, _, _, _, _, _, _, _, _, _, _, _, _, _, _, _, _, _, _, _, _, _, _, _, _, _, _, _, _, _, rfl, ⟨HRA.out, HP.out.rb, by (try simp only [List.length_cons, List.length_nil]); have := HS.out.1; omega, by rw [HS.out.2, List.append_assoc]; rfl, by rw [List.all_append, HP.out.all, List.all_cons, HTt.out]; rfl, HI5.out.1 (by first | rfl | trivial), HI5.out.2, fun z hz => HP.out.sa z (List.mem_cons_of_mem _ hz), fun z hz => HP.out.sb z (hz), by have := HP.out.len; (try simp only [List.length_cons, List.length_nil, List.length_append] at *); omega⟩⟩, ?_⟩
          simp [lenOf] <;> omega
      | cons y tb =>
        by_cases hz : Zb.cmp x.p y.p < 0
        · skip
          have HP := Lib.hid hP
          obtain ⟨⟨Aa, ca, ea, ga⟩, hca⟩ := hP.ra
          obtain ⟨⟨Ab, cb, eb, gb⟩, hcb⟩ := hP.rb
          subst ea eb
          simp only [List.length_cons, List.length_nil] at *
          obtain ⟨ba, oa, rfl, ha⟩ := ga (by omega)
          have hat := ha 0 (by simp)
          simp only [Nat.zero_mul, Nat.add_zero, List.getElem_cons_zero] at hat
          have hatw := hat.keep (Below.keeps hP.bel)
          obtain ⟨v0, k0, hv0, _⟩ := hatw
          have hla : ba < w'.heap.size := World.block_lt_of_cell? w' _ k0
          have HA := Lib.hid hat
          have h1a : 1 ≤ ca := by obtain ⟨A9, n9, c9, e9, h9, _⟩ := hca; injection e9 with _ e1 e2; omega
          obtain ⟨Ax, hAx⟩ : ∃ Ax, (if ca = 1 then some (⟨ba, oa, none⟩ : Addr) else some ⟨ba, oa + 5, none⟩) = Ax := ⟨_, rfl⟩
          have HRA := Lib.hid (show RdC W (.slice Ax ta.length (ca - 1)) ta ∧ CapOk (.slice Ax ta.length (ca - 1)) from hAx ▸ tailC HP.out.ra hca)
          obtain ⟨bb, ob, rfl, hb⟩ := gb (by omega)
          have hbt := hb 0 (by simp)
          simp only [Nat.zero_mul, Nat.add_zero, List.getElem_cons_zero] at hbt
          have hbtw := hbt.keep (Below.keeps hP.bel)
          obtain ⟨w0, m0, hw0, _⟩ := hbtw
          have hlb : bb < w'.heap.size := World.block_lt_of_cell? w' _ m0
          have HBt := Lib.hid hbt
          have h1b : 1 ≤ cb := by obtain ⟨A9, n9, c9, e9, h9, _⟩ := hcb; injection e9 with _ e1 e2; omega
          have HCm := Lib.hid (fun (w'' : World) (h1 : RdU w'' v0 (pti x.p)) (h2 : RdU w'' w0 (pti y.p)) => zCmp_any x.p y.p v0 w0 w'' h1 h2 (by rw [RA.out.len _ (HP.out.sa _ (List.mem_cons_self ..)), RB.out.len _ (HP.out.sb _ (List.mem_cons_self ..))]) (by rw [RA.out.len _ (HP.out.sa _ (List.mem_cons_self ..))]; exact HK.out.1) (by rw [RA.out.len _ (HP.out.sa _ (List.mem_cons_self ..))]; exact HK.out.2.1) (RA.out.ok _ (HP.out.sa _ (List.mem_cons_self ..))) (RB.out.ok _ (HP.out.sb _ (List.mem_cons_self ..))))
          have HV := Lib.hid (And.intro hv0 hw0)
          obtain ⟨A0, cc, rfl, hx0⟩ := RdU.point hv0
          obtain ⟨A1, cd, rfl, hx1⟩ := RdU.point hw0
          clear hx0 hx1
          obtain ⟨m, hm, hpe⟩ := HP.out.lt hz
          have HS := Lib.hid (And.intro hm hpe)
          have HTell := Lib.hid (fun (w'' : World) (hi : Inv d w'') (hbe : Below W.heap.size W w'') => HT.out d (some x, none) (.pointer (some ⟨ba, oa, none⟩)) (.pointer none) w'' hi hbe (HA.out.keep (Below.keeps hbe) |> fun h => ⟨_, _, rfl, h⟩) rfl (fun z hz => by injection hz with hz; subst hz; exact HP.out.sa _ (List.mem_cons_self ..)) (fun z hz => by cases hz) (by have := HP.out.len; have := HK.out.2.2; simp at *; omega) (by simp))
          generalize Zb.cmp x.p y.p = z at *
          have z1 : z ≤ 0 := by omega
          have z2 : ¬ z ≥ 0 := by omega
          have sa1 : ((ta.length : Int) + 1 == 0) = false := by simp; omega
          have sa2 : (0 : Int) < (ta.length : Int) + 1 := by omega
          have sa3 : (1 : Int) ≤ (ta.length : Int) + 1 := by omega
          have sb1 : ((tb.length : Int) + 1 == 0) = false := by simp; omega
          have sb2 : (0 : Int) < (tb.length : Int) + 1 := by omega
          have sb3 : (1 : Int) ≤ (tb.length : Int) + 1 := by omega
          clear hP hca hcb hm hpe ga gb ha hat hv0 hb hbt hw0 hz
          go_wp2_with fail
          go_quiet ((go_at_call 58; exact Calls.quiet_of_same ((HCm.out _ (RdU.drewN HV.out.1 _) (RdU.drewN HV.out.2 _)).mono fun e w' ⟨h1, h2⟩ => ⟨h1, h2⟩)))
          go_wp2_with fail
          go_quiet (fail)
          go_wp2_with fail
          have hbe := HP.out.bel
          refine (HTell.out _ (HDr.out _ _ _ HP.out.inv) (Bdrew hbe _)).mono ?_
          rintro e w5 ⟨rfl, hI5, hb5⟩
          have HI5 := Lib.hid (And.intro hI5 hb5)
          clear hI5 hb5 hbe
          generalize hT : T (some x, none) = t at *
          have HTt := Lib.hid hT
          clear hT
          cases t with
          | false =>
            go_wp2_with fail
            simp only [Exit.jump]
            go_ret
            have e : (pairs a b).all T = false := by rw [HS.out.2, List.all_append, List.all_cons, HTt.out]; simp
            exact ⟨by rw [e] <;> rfl, (fun h => by rw [e] at h; cases h), HI5.out.2⟩
          | true =>
            go_wp2_with fail
            go_step3
            refine ⟨rfl, ⟨_, _, m, ta, (y :: tb), d ++ [(some x, none)], _, _, _, _, _, _, _, _, _, _, _, _, _, _, _, _, _, _, _, _, _, _, _, _, _, _, _, _, _, _, _, _, _, _, _, _, _, _, _, _, _, _, _, _, _, _, _, _, rfl, ⟨HRA.out, HP.out.rb, by (try simp only [List.length_cons, List.length_nil]); have := HS.out.1; omega, by rw [HS.out.2, List.append_assoc]; rfl, by rw [List.all_append, HP.out.all, List.all_cons, HTt.out]; rfl, HI5.out.1 (by first | rfl | trivial), HI5.out.2, fun z hz => HP.out.sa z (List.mem_cons_of_mem _ hz), fun z hz => HP.out.sb z (hz), by have := HP.out.len; (try simp only [List.length_cons, List.length_nil, List.length_append] at *); omega⟩⟩, ?_⟩
            simp [lenOf] <;> omega
        · by_cases hz2 : 0 < Zb.cmp x.p y.p
          · skip
            have HP := Lib.hid hP
            obtain ⟨⟨Aa, ca, ea, ga⟩, hca⟩ := hP.ra
            obtain ⟨⟨Ab, cb, eb, gb⟩, hcb⟩ := hP.rb
            subst ea eb
            simp only [List.length_cons, List.length_nil] at *
            obtain ⟨ba, oa, rfl, ha⟩ := ga (by omega)
            have hat := ha 0 (by simp)
            simp only [Nat.zero_mul, Nat.add_zero, List.getElem_cons_zero] at hat
            have hatw := hat.keep (Below.keeps hP.bel)
            obtain ⟨v0, k0, hv0, _⟩ := hatw
            have hla : ba < w'.heap.size := World.block_lt_of_cell? w' _ k0
            have HA := Lib.hid hat
            have h1a : 1 ≤ ca := by obtain ⟨A9, n9, c9, e9, h9, _⟩ := hca; injection e9 with _ e1 e2; omega
            obtain ⟨bb, ob, rfl, hb⟩ := gb (by omega)
            have hbt := hb 0 (by simp)
            simp only [Nat.zero_mul, Nat.add_zero, List.getElem_cons_zero] at hbt
            have hbtw := hbt.keep (Below.keeps hP.bel)
            obtain ⟨w0, m0, hw0, _⟩ := hbtw
            have hlb : bb < w'.heap.size := World.block_lt_of_cell? w' _ m0
            have HBt := Lib.hid hbt
            have h1b : 1 ≤ cb := by obtain ⟨A9, n9, c9, e9, h9, _⟩ := hcb; injection e9 with _ e1 e2; omega
            obtain ⟨Ay, hAy⟩ : ∃ Ay, (if cb = 1 then some (⟨bb, ob, none⟩ : Addr) else some ⟨bb, ob + 5, none⟩) = Ay := ⟨_, rfl⟩
            have HRB := Lib.hid (show RdC W (.slice Ay tb.length (cb - 1)) tb ∧ CapOk (.slice Ay tb.length (cb - 1)) from hAy ▸ tailC HP.out.rb hcb)
            have HCm := Lib.hid (fun (w'' : World) (h1 : RdU w'' v0 (pti x.p)) (h2 : RdU w'' w0 (pti y.p)) => zCmp_any x.p y.p v0 w0 w'' h1 h2 (by rw [RA.out.len _ (HP.out.sa _ (List.mem_cons_self ..)), RB.out.len _ (HP.out.sb _ (List.mem_cons_self ..))]) (by rw [RA.out.len _ (HP.out.sa _ (List.mem_cons_self ..))]; exact HK.out.1) (by rw [RA.out.len _ (HP.out.sa _ (List.mem_cons_self ..))]; exact HK.out.2.1) (RA.out.ok _ (HP.out.sa _ (List.mem_cons_self ..))) (RB.out.ok _ (HP.out.sb _ (List.mem_cons_self ..))))
            have HV := Lib.hid (And.intro hv0 hw0)
            obtain ⟨A0, cc, rfl, hx0⟩ := RdU.point hv0
            obtain ⟨A1, cd, rfl, hx1⟩ := RdU.point hw0
            clear hx0 hx1
            obtain ⟨m, hm, hpe⟩ := HP.out.gt hz hz2
            have HS := Lib.hid (And.intro hm hpe)
            have HTell := Lib.hid (fun (w'' : World) (hi : Inv d w'') (hbe : Below W.heap.size W w'') => HT.out d (none, some y) (.pointer none) (.pointer (some ⟨bb, ob, none⟩)) w'' hi hbe rfl (HBt.out.keep (Below.keeps hbe) |> fun h => ⟨_, _, rfl, h⟩) (fun z hz => by cases hz) (fun z hz => by injection hz with hz; subst hz; exact HP.out.sb _ (List.mem_cons_self ..)) (by have := HP.out.len; have := HK.out.2.2; simp at *; omega) (by simp))
            generalize Zb.cmp x.p y.p = z at *
            have z1 : ¬ z ≤ 0 := by omega
            have z2 : z ≥ 0 := by omega
            have sa1 : ((ta.length : Int) + 1 == 0) = false := by simp; omega
            have sa2 : (0 : Int) < (ta.length : Int) + 1 := by omega
            have sa3 : (1 : Int) ≤ (ta.length : Int) + 1 := by omega
            have sb1 : ((tb.length : Int) + 1 == 0) = false := by simp; omega
            have sb2 : (0 : Int) < (tb.length : Int) + 1 := by omega
            have sb3 : (1 : Int) ≤ (tb.length : Int) + 1 := by omega
            clear hP hca hcb hm hpe ga gb ha hat hv0 hb hbt hw0 hz hz2
            go_wp2_with fail
            go_quiet ((go_at_call 58; exact Calls.quiet_of_same ((HCm.out _ (RdU.drewN HV.out.1 _) (RdU.drewN HV.out.2 _)).mono fun e w' ⟨h1, h2⟩ => ⟨h1, h2⟩)))
            go_wp2_with fail
            go_quiet (fail)
            go_wp2_with fail
            have hbe := HP.out.bel
            refine (HTell.out _ (HDr.out _ _ _ HP.out.inv) (Bdrew hbe _)).mono ?_
            rintro e w5 ⟨rfl, hI5, hb5⟩
            have HI5 := Lib.hid (And.intro hI5 hb5)
            clear hI5 hb5 hbe
            generalize hT : T (none, some y) = t at *
            have HTt := Lib.hid hT
            clear hT
            cases t with
            | false =>
              go_wp2_with fail
              simp only [Exit.jump]
              go_ret
              have e : (pairs a b).all T = false := by rw [HS.out.2, List.all_append, List.all_cons, HTt.out]; simp
              exact ⟨by rw [e] <;> rfl, (fun h => by rw [e] at h; cases h), HI5.out.2⟩
            | true =>
              go_wp2_with fail
              go_step3
              refine ⟨rfl, ⟨_, _, m, (x :: ta), tb, d ++ [(none, some y)], _, _, _, _, _, _, _, _, _, _, _, _, _, _, _, _, _, _, _, _, _, _, _, _, _, _, _, _, _, _, _, _, _, _, _, _, _, _, _, _, _, _, _, _, _, _, _, _, rfl, ⟨HP.out.ra, HRB.out, by (try simp only [List.length_cons, List.length_nil]); have := HS.out.1; omega, by rw [HS.out.2, List.append_assoc]; rfl, by rw [List.all_append, HP.out.all, List.all_cons, HTt.out]; rfl, HI5.out.1 (by first | rfl | trivial), HI5.out.2, fun z hz => HP.out.sa z (hz), fun z hz => HP.out.sb z (List.mem_cons_of_mem _ hz), by have := HP.out.len; (try simp only [List.length_cons, List.length_nil, List.length_append] at *); omega⟩⟩, ?_⟩
              simp [lenOf] <;> omega
          · skip
            have HP := Lib.hid hP
            obtain ⟨⟨Aa, ca, ea, ga⟩, hca⟩ := hP.ra
            obtain ⟨⟨Ab, cb, eb, gb⟩, hcb⟩ := hP.rb
            subst ea eb
            simp only [List.length_cons, List.length_nil] at *
            obtain ⟨ba, oa, rfl, ha⟩ := ga (by omega)
            have hat := ha 0 (by simp)
            simp only [Nat.zero_mul, Nat.add_zero, List.getElem_cons_zero] at hat
            have hatw := hat.keep (Below.keeps hP.bel)
            obtain ⟨v0, k0, hv0, _⟩ := hatw
            have hla : ba < w'.heap.size := World.block_lt_of_cell? w' _ k0
            have HA := Lib.hid hat
            have h1a : 1 ≤ ca := by obtain ⟨A9, n9, c9, e9, h9, _⟩ := hca; injection e9 with _ e1 e2; omega
            obtain ⟨Ax, hAx⟩ : ∃ Ax, (if ca = 1 then some (⟨ba, oa, none⟩ : Addr) else some ⟨ba, oa + 5, none⟩) = Ax := ⟨_, rfl⟩
            have HRA := Lib.hid (show RdC W (.slice Ax ta.length (ca - 1)) ta ∧ CapOk (.slice Ax ta.length (ca - 1)) from hAx ▸ tailC HP.out.ra hca)
            obtain ⟨bb, ob, rfl, hb⟩ := gb (by omega)
            have hbt := hb 0 (by simp)
            simp only [Nat.zero_mul, Nat.add_zero, List.getElem_cons_zero] at hbt
            have hbtw := hbt.keep (Below.keeps hP.bel)
            obtain ⟨w0, m0, hw0, _⟩ := hbtw
            have hlb : bb < w'.heap.size := World.block_lt_of_cell? w' _ m0
            have HBt := Lib.hid hbt
            have h1b : 1 ≤ cb := by obtain ⟨A9, n9, c9, e9, h9, _⟩ := hcb; injection e9 with _ e1 e2; omega
            obtain ⟨Ay, hAy⟩ : ∃ Ay, (if cb = 1 then some (⟨bb, ob, none⟩ : Addr) else some ⟨bb, ob + 5, none⟩) = Ay := ⟨_, rfl⟩
            have HRB := Lib.hid (show RdC W (.slice Ay tb.length (cb - 1)) tb ∧ CapOk (.slice Ay tb.length (cb - 1)) from hAy ▸ tailC HP.out.rb hcb)
            have HCm := Lib.hid (fun (w'' : World) (h1 : RdU w'' v0 (pti x.p)) (h2 : RdU w'' w0 (pti y.p)) => zCmp_any x.p y.p v0 w0 w'' h1 h2 (by rw [RA.out.len _ (HP.out.sa _ (List.mem_cons_self ..)), RB.out.len _ (HP.out.sb _ (List.mem_cons_self ..))]) (by rw [RA.out.len _ (HP.out.sa _ (List.mem_cons_self ..))]; exact HK.out.1) (by rw [RA.out.len _ (HP.out.sa _ (List.mem_cons_self ..))]; exact HK.out.2.1) (RA.out.ok _ (HP.out.sa _ (List.mem_cons_self ..))) (RB.out.ok _ (HP.out.sb _ (List.mem_cons_self ..))))
            have HV := Lib.hid (And.intro hv0 hw0)
            obtain ⟨A0, cc, rfl, hx0⟩ := RdU.point hv0
            obtain ⟨A1, cd, rfl, hx1⟩ := RdU.point hw0
            clear hx0 hx1
            obtain ⟨m, hm, hpe⟩ := HP.out.eq hz hz2
            have HS := Lib.hid (And.intro hm hpe)
            have HTell := Lib.hid (fun (w'' : World) (hi : Inv d w'') (hbe : Below W.heap.size W w'') => HT.out d (some x, some y) (.pointer (some ⟨ba, oa, none⟩)) (.pointer (some ⟨bb, ob, none⟩)) w'' hi hbe (HA.out.keep (Below.keeps hbe) |> fun h => ⟨_, _, rfl, h⟩) (HBt.out.keep (Below.keeps hbe) |> fun h => ⟨_, _, rfl, h⟩) (fun z hz => by injection hz with hz; subst hz; exact HP.out.sa _ (List.mem_cons_self ..)) (fun z hz => by injection hz with hz; subst hz; exact HP.out.sb _ (List.mem_cons_self ..)) (by have := HP.out.len; have := HK.out.2.2; simp at *; omega) (by simp))
            generalize Zb.cmp x.p y.p = z at *
            have z1 : z ≤ 0 := by omega
            have z2 : z ≥ 0 := by omega
            have sa1 : ((ta.length : Int) + 1 == 0) = false := by simp; omega
            have sa2 : (0 : Int) < (ta.length : Int) + 1 := by omega
            have sa3 : (1 : Int) ≤ (ta.length : Int) + 1 := by omega
            have sb1 : ((tb.length : Int) + 1 == 0) = false := by simp; omega
            have sb2 : (0 : Int) < (tb.length : Int) + 1 := by omega
            have sb3 : (1 : Int) ≤ (tb.length : Int) + 1 := by omega
            clear hP hca hcb hm hpe ga gb ha hat hv0 hb hbt hw0 hz hz2
            go_wp2_with fail
            go_quiet ((go_at_call 58; exact Calls.quiet_of_same ((HCm.out _ (RdU.drewN HV.out.1 _) (RdU.drewN HV.out.2 _)).mono fun e w' ⟨h1, h2⟩ => ⟨h1, h2⟩)))
            go_wp2_with fail
            go_quiet (fail)
            go_wp2_with fail
            go_quiet (fail)
            go_wp2_with fail
            have hbe := HP.out.bel
            refine (HTell.out _ (HDr.out _ _ _ HP.out.inv) (Bdrew hbe _)).mono ?_
            rintro e w5 ⟨rfl, hI5, hb5⟩
            have HI5 := Lib.hid (And.intro hI5 hb5)
            clear hI5 hb5 hbe
            generalize hT : T (some x, some y) = t at *
            have HTt := Lib.hid hT
            clear hT
            cases t with
            | false =>
              go_wp2_with fail
              simp only [Exit.jump]
              go_ret
              have e : (pairs a b).all T = false := by rw [HS.out.2, List.all_append, List.all_cons, HTt.out]; simp
              exact ⟨by rw [e] <;> rfl, (fun h => by rw [e] at h; cases h), HI5.out.2⟩
            | true =>
              go_wp2_with fail
              go_step3
              refine ⟨rfl, ⟨_, _, m, ta, tb, d ++ [(some x, some y)], _, _, _, _, _, _, _, _, _, _, _, _, _, _, _, _, _, _, _, _, _, _, _, _, _, _, _, _, _, _, _, _, _, _, _, _, _, _, _, _, _, _, _, _, _, _, _, _, rfl, ⟨HRA.out, HRB.out, by (try simp only [List.length_cons, List.length_nil]); have := HS.out.1; omega, by rw [HS.out.2, List.append_assoc]; rfl, by rw [List.all_append, HP.out.all, List.all_cons, HTt.out]; rfl, HI5.out.1 (by first | rfl | trivial), HI5.out.2, fun z hz => HP.out.sa z (List.mem_cons_of_mem _ hz), fun z hz => HP.out.sb z (List.mem_cons_of_mem _ hz), by have := HP.out.len; (try simp only [List.length_cons, List.length_nil, List.length_append] at *); omega⟩⟩, ?_⟩
              simp [lenOf] <;> omega
  · intro Q' hR
    have hR := Lib.hid hR
    go_wp2_with fail
    go_step3
    simp only [Exit.then]
    rename_i hK
    refine hK _ _ ?_
    refine hR.out _ _ ?_
    exact ⟨_, _, _, a, b, [], _, _, _, _, _, _, _, _, _, _, _, _, _, _, _, _, _, _, _, _, _, _, _, _, _, _, _, _, _, _, _, _, _, _, _, _, _, _, _, _, _, _, _, _, _, _, _, _, rfl, H0.out⟩
end Go.Proofs.YtjokcagggmjgmaaGreat
/-! EditA -/
namespace Go.Proofs.YtjokcagggmjgmaaGreat
open Go.RowKit
set_option linter.unusedVariables false
set_option linter.unusedSimpArgs false

/-- what edit.Then hands back -/
def ThenQ (W : World) (r : Bool) (o : Option (List Ch)) (e : Ending) (w' : World) : Prop :=
  (match r, o with
  | false, _ => e = .returned (.tuple #[.slice none 0 0, .int .i64 9])
  | true, none => e = .returned (.tuple #[.slice none 0 0, .int .i64 7])
  | true, some l => ∃ A c, e = .returned (.tuple #[.slice A l.length c, .int .i64 0]) ∧ RdC w' (.slice A l.length c) l ∧ CapOk (.slice A l.length c)) ∧ Below W.heap.size W w'

theorem tell_any (W : World) (B : Nat) (a b : List Ch) (n : Nat) (ra : Rt n a) (rb : Rt n b) (n1 : 1 ≤ n) (n16 : n ≤ 16) (hW : W.heap.size ≤ B) (d : List (Option Ch × Option Ch)) (p : Option Ch × Option Ch) (px py : Value) (w : World)
    (hi : InvT W B (d.filterMap combC) w) (hx : PtrC w px p.1) (hy : PtrC w py p.2) (ha : ∀ x, p.1 = some x → x ∈ a) (hb : ∀ y, p.2 = some y → y ∈ b) (hd : d.length ≤ 1000) (hp : p ≠ (none, none)) :
    Calls Tryz.prog 90 #[px, py, .pointer (some ⟨B, 0, none⟩)] w fun e w' => e = .returned (.bool (fitC p)) ∧ (fitC p = true → InvT W B ((d ++ [p]).filterMap combC) w') ∧ Below W.heap.size W w' := by
  have hl : (d.filterMap combC).length ≤ 10000 := Nat.le_trans (List.length_filterMap_le _ _) (by omega)
  obtain ⟨p1, p2⟩ := p
  cases p1 with
  | none =>
    cases p2 with
    | none => exact absurd rfl hp
    | some y =>
      obtain rfl : px = .pointer none := hx
      have hm := hb y rfl
      refine (tellY W w B _ y py hW hi hy (by rw [rb.len y hm]; exact n1) (by rw [rb.len y hm]; omega) hl).mono fun e w' ⟨h1, h2⟩ => ⟨h1, fun _ => ?_, h2.bel⟩
      rw [List.filterMap_append]; exact h2
  | some x =>
    have hm := ha x rfl
    cases p2 with
    | none =>
      obtain rfl : py = .pointer none := hy
      refine (tellX W w B _ x px hW hi hx (by rw [ra.len x hm]; exact n1) (by rw [ra.len x hm]; omega) hl).mono fun e w' ⟨h1, h2⟩ => ⟨h1, fun _ => ?_, h2.bel⟩
      rw [List.filterMap_append]; exact h2
    | some y =>
      refine (tellXY W w B _ x y px py hW hi hx hy (by rw [ra.len x hm]; exact n1) (by rw [ra.len x hm]; omega) hl).mono fun e w' ⟨h1, h2, h3⟩ => ⟨h1, fun h => ?_, h3⟩
      have := h2 h
      rw [List.filterMap_append]
      cases hc : combC (some x, some y) with
      | none => rw [hc] at this; simpa [hc] using this
      | some z => rw [hc] at this; simpa [hc] using this

set_option maxRecDepth 8000 in
set_option maxHeartbeats 1000000 in
theorem eThen_any (k : Int) (a b : List Ch) (va vb : Value) (w : World) (ha : RdC w va a ∧ CapOk va) (hb : RdC w vb b ∧ CapOk vb) (na : a.length ≤ 400) (nb : b.length ≤ 400) (oa : OkC a) (ob : OkC b) :
    Calls Tryz.prog 49 #[.int .i64 k, va, vb] w fun e w' => ThenQ w (rightL k a && rightL k b) (thenL a b) e w' := by
  have H1 := Lib.hid (eRight_any k a va w ha.1 (by omega) oa)
  have H2 := Lib.hid (fun (w' : World) (h : RdC w' vb b) => eRight_any k b vb w' h (by omega) ob)
  have HR := Lib.hid (And.intro ha hb)
  have HO := Lib.hid (And.intro oa (And.intro ob (And.intro na nb)))
  clear ha hb na nb oa ob
  cases r1 : rightL k a with
  | false =>
    rw [r1] at H1
    clear r1 H2 HO
    go_enter Tryz.func49, Tryz.ntmps49
    go_wp2_with fail
    refine H1.out.mono ?_
    rintro e w1 ⟨rfl, hb1⟩
    go_wp2_with fail
    go_ret2
    exact ⟨rfl, hb1⟩
  | true =>
    rw [r1] at H1
    cases r2 : rightL k b with
    | false =>
      rw [r2] at H2
      clear r1 r2 HO
      go_enter Tryz.func49, Tryz.ntmps49
      go_wp2_with fail
      refine H1.out.mono ?_
      rintro e w1 ⟨rfl, hb1⟩
      have HB1 := Lib.hid hb1
      clear hb1
      go_wp2_with fail
      refine (H2.out _ (HR.out.2.1.below HB1.out)).mono ?_
      rintro e w2 ⟨rfl, hb2⟩
      have HB2 := Lib.hid (HB1.out.trans (hb2.mono HB1.out.size))
      clear hb2
      go_wp2_with fail
      go_ret2
      exact ⟨rfl, HB2.out⟩
    | true =>
      rw [r2] at H2
      obtain ⟨n, rfl, n1, n16, ra⟩ := rightL_rt HO.out.1 r1
      obtain ⟨n', e', _, _, rb⟩ := rightL_rt HO.out.2.1 r2
      obtain rfl : n' = n := by omega
      have HP := Lib.hid (fun (B : Nat) (w' : World) (hB : w.heap.size ≤ B) (hi : InvT w B [] w') => pairs_any w w' 90 #[.pointer (some ⟨B, 0, none⟩)] fitC (fun d w'' => InvT w B (d.filterMap combC) w'') a b va vb n' ra rb ⟨n1, n16⟩ (by have := HO.out.2.2; omega) (enters_func Tryz.func90 (by kernel_rfl) (by kernel_rfl))
        (fun d p px py w2 h1 _ hx hy h2 h3 h4 h5 => tell_any w B a b n' ra rb n1 n16 hB d p px py w2 h1 hx hy h2 h3 h4 h5) (fun d w2 m ⟨vo, q1, q2, q3⟩ => ⟨vo, q1, (q2.below (drewN_below w2 m)).mono fun u p h => h.below (drewN_below w2 m), Bdrew q3 m⟩) hi hi.bel HR.out.1 HR.out.2)
      have HL := Lib.hid (show thenL a b = if (pairs a b).all fitC then some ((pairs a b).filterMap combC) else none from rfl)
      clear ra rb r1 r2 e' n1 n16
      go_enter Tryz.func49, Tryz.ntmps49
      go_wp2_with fail
      refine H1.out.mono ?_
      rintro e w1 ⟨rfl, hb1⟩
      have HB1 := Lib.hid hb1
      clear hb1
      go_wp2_with fail
      refine (H2.out _ (HR.out.2.1.below HB1.out)).mono ?_
      rintro e w2 ⟨rfl, hb2⟩
      have HB2 := Lib.hid (HB1.out.trans (hb2.mono HB1.out.size))
      clear hb2
      go_wp2_with fail
      refine (HP.out _ _ HB2.out.size ⟨.slice none 0 0, heap_alloc_new _ _, OwnC.nil _ _ _, below_alloc' HB2.out _⟩).mono ?_
      rintro e w3 ⟨rfl, hi3, hb3⟩
      have HI3 := Lib.hid (And.intro hi3 hb3)
      clear hi3 hb3
      cases hall : (pairs a b).all fitC with
      | false =>
        rw [hall] at HL
        clear hall
        go_wp2_with fail
        go_ret2
        rw [show thenL a b = none from HL.out]
        exact ⟨rfl, HI3.out.2⟩
      | true =>
        rw [hall] at HL
        obtain ⟨vo, q1, q2, q3⟩ := HI3.out.1 hall
        obtain ⟨r1, r2⟩ := q2.rd fun u p h => h.rd
        have c1 := cell_of_one q1
        obtain ⟨A, c, rfl, hx⟩ := r1
        have HRes := Lib.hid (And.intro (show RdC w3 (.slice A ((pairs a b).filterMap combC).length c) ((pairs a b).filterMap combC) from ⟨A, c, rfl, hx⟩) r2)
        clear hall q1 q2 q3 hx r2
        go_wp2_with fail
        go_ret2
        rw [show thenL a b = some ((pairs a b).filterMap combC) from HL.out]
        exact ⟨⟨A, c, rfl, HRes.out.1, HRes.out.2⟩, HI3.out.2⟩
end Go.Proofs.YtjokcagggmjgmaaGreat
/-! SameE -/
namespace Go.Proofs.YtjokcagggmjgmaaGreat
open Go.RowKit
set_option linter.unusedVariables false
set_option linter.unusedSimpArgs false

/-- the same changes? -/
noncomputable def eqL (l m : List Ch) : Bool := @decide (l = m) (Classical.propDecidable _)
theorem eqL_true {l m : List Ch} (h : l = m) : eqL l m = true := by unfold eqL; exact @decide_eq_true _ (Classical.propDecidable _) h
theorem eqL_false {l m : List Ch} (h : l ≠ m) : eqL l m = false := by unfold eqL; exact @decide_eq_false _ (Classical.propDecidable _) h
theorem eqL_iff {l m : List Ch} : eqL l m = true ↔ l = m := by unfold eqL; exact @decide_eq_true_iff _ (Classical.propDecidable _)
theorem eqL_at {l m : List Ch} {j : Nat} (h1 : j < l.length) (h2 : j < m.length) (h : l[j] ≠ m[j]) : eqL l m = false := eqL_false fun e => by subst e; exact h rfl


theorem quiet_more {P : Program} {f : FuncId} {args : Array Value} {w : World} {n x : Nat} {v : Value}
    (h : Calls P f args (w.drewN (n + x)) fun e w'' => e = .returned v ∧ ∃ m, w'' = (w.drewN (n + x)).drewN m) : Calls P f args (w.drewN (n + x)) fun e w'' => e = .returned v ∧ ∃ m, w'' = w.drewN (n + m) :=
  h.mono fun e w' ⟨h1, q, h2⟩ => ⟨h1, x + q, by rw [h2, World.drewN_drewN, Nat.add_assoc]⟩

set_option maxRecDepth 100000 in
set_option maxHeartbeats 8000000 in
theorem rSameC_any (l m : List Ch) (va vb : Value) (w : World) (ha : RdC w va l) (hb : RdC w vb m) (hn : l.length ≤ 1000) (h40 : ∀ c ∈ l, c.p.length ≤ 40) :
    Calls Tryz.prog 19 #[va, vb] w fun e w' => e = .returned (.bool (eqL l m)) ∧ ∃ n, w' = w.drewN n := by
  obtain ⟨A, c, rfl, ga0⟩ := ha
  obtain ⟨B, d, rfl, gb0⟩ := hb
  have HD := Lib.hid (And.intro hn h40)
  clear hn h40
  by_cases hlm : l.length = m.length
  · have hne : ((l.length : Int) != (m.length : Int)) = false := by simp [hlm]
    have HL := Lib.hid hlm
    have HGA := Lib.hid ga0
    have HGB := Lib.hid gb0
    clear hlm ga0 gb0
    go_enter Tryz.func19, Tryz.ntmps19
    go_wp2_with fail
    go_loopw [5] (fun i wr => ∃ (j n : Nat), j ≤ l.length ∧ i = .int .i64 j ∧ l.take j = m.take j ∧ wr = w.drewN n) (fun i _ => l.length - (intOf i).toNat)
    case atStart => exact ⟨0, 0, Nat.zero_le _, rfl, rfl, rfl⟩
    case round =>
      obtain ⟨j, n, hj, rfl, htk, rfl⟩ := hrel
      by_cases hlt : j < l.length
      · have hmt : j < m.length := by have := HL.out; omega
        have h3 : (j : Int) < l.length := by omega
        have h4 : (j : Int) < m.length := by omega
        have h5 : (0 : Int) ≤ (j : Int) := by omega
        obtain ⟨bk, ofs, rfl, ga⟩ := HGA.out (by omega)
        obtain ⟨bk2, ofs2, rfl, gb⟩ := HGB.out (by omega)
        obtain ⟨v0, k0, hv0, k1, k2, k3, k4⟩ := ga j hlt
        obtain ⟨w0, m0, hw0, m1, m2, m3, m4⟩ := gb j hmt
        have HS := Lib.hid (fun (w' : World) (h1 : RdU w' v0 (pti l[j].p)) (h2 : RdU w' w0 (pti m[j].p)) => Same_any _ _ _ _ w' h1 h2 (by unfold pti; rw [List.length_map]; have := HD.out.2 _ (List.getElem_mem hlt); omega))
        rw [pti_inj] at HS
        have HV := Lib.hid (And.intro hv0 hw0)
        have HW := Lib.hid (show wrap64 ((j : Int) + 1) = ((j + 1 : Nat) : Int) by have := HD.out.1; unfold wrap64; omega)
        have HN := Lib.hid (show l[j] = m[j] → l.take (j + 1) = m.take (j + 1) from fun h => by rw [← List.take_append_getElem hlt, ← List.take_append_getElem hmt, htk, h])
        have HF := Lib.hid (show l[j] ≠ m[j] → eqL l m = false from eqL_at hlt hmt)
        obtain ⟨A0, cc, rfl, hx0⟩ := RdU.point hv0
        obtain ⟨A1, cd, rfl, hx1⟩ := RdU.point hw0
        clear ga gb hv0 hw0 hx0 hx1 htk
        generalize l[j] = x at *
        generalize m[j] = y at *
        obtain ⟨xp, xhad, xhas, xold, xnew⟩ := x
        obtain ⟨yp, yhad, yhas, yold, ynew⟩ := y
        simp only at k0 k1 k2 k3 k4 m0 m1 m2 m3 m4
        simp only at HS HV
        have hb0 : Below w.heap.size w (w.drewN n) := drewN_below _ _
        obtain ⟨b3, e3⟩ : ∃ b, ((xold : Int) != (yold : Int)) = b := ⟨_, rfl⟩
        obtain ⟨b4, e4⟩ : ∃ b, ((xnew : Int) != (ynew : Int)) = b := ⟨_, rfl⟩
        obtain ⟨b5, e5⟩ : ∃ b, decide (xp = yp) = b := ⟨_, rfl⟩
        rw [e5] at HS
        have HE := Lib.hid (And.intro e3 (And.intro e4 e5))
        clear e5
        have hcase : xhad = yhad ∨ (xhad = false ∧ yhad = true) ∨ (xhad = true ∧ yhad = false) := by cases xhad <;> cases yhad <;> simp
        rcases hcase with hq | hq | hq
        rotate_left
        · obtain ⟨rfl, rfl⟩ := hq
          have HF2 := Lib.hid (HF.out (by intro h; injection h with a1 a2 a3 a4 a5; cases a2))
          clear HN HF
          go_wp2_with fail
          go_quiet (fail)
          go_wp2_with fail
          go_ret
          exact ⟨by rw [HF2.out] <;> rfl, _, by first | rfl | exact World.drewN_drewN ..⟩
        · obtain ⟨rfl, rfl⟩ := hq
          have HF2 := Lib.hid (HF.out (by intro h; injection h with a1 a2 a3 a4 a5; cases a2))
          clear HN HF
          go_wp2_with fail
          go_quiet (fail)
          go_wp2_with fail
          go_ret
          exact ⟨by rw [HF2.out] <;> rfl, _, by first | rfl | exact World.drewN_drewN ..⟩
        · have hcase : xhas = yhas ∨ (xhas = false ∧ yhas = true) ∨ (xhas = true ∧ yhas = false) := by cases xhas <;> cases yhas <;> simp
          have HQ := Lib.hid hq
          rcases hcase with hr | hr | hr
          rotate_left
          · obtain ⟨rfl, rfl⟩ := hr
            subst hq
            cases xhad
            all_goals
              have HF2 := Lib.hid (HF.out (by intro h; injection h with a1 a2 a3 a4 a5; cases a3))
              clear HN HF
              go_wp2_with fail
              go_quiet (fail)
              go_wp2_with fail
              go_ret
              exact ⟨by rw [HF2.out] <;> rfl, _, by first | rfl | exact World.drewN_drewN ..⟩
          · obtain ⟨rfl, rfl⟩ := hr
            subst hq
            cases xhad
            all_goals
              have HF2 := Lib.hid (HF.out (by intro h; injection h with a1 a2 a3 a4 a5; cases a3))
              clear HN HF
              go_wp2_with fail
              go_quiet (fail)
              go_wp2_with fail
              go_ret
              exact ⟨by rw [HF2.out] <;> rfl, _, by first | rfl | exact World.drewN_drewN ..⟩
          · subst hq hr
            clear HQ
            cases b3 with
            | true =>
              cases xhad <;> cases xhas
              all_goals
                have HF2 := Lib.hid (HF.out (by intro h; injection h with a1 a2 a3 a4 a5; have := HE.out.1; rw [show xold = yold from by first | exact a4 | exact_mod_cast a4] at this; simp at this))
                clear HN HF
                go_wp2_with fail
                go_quiet (fail)
                go_wp2_with fail
                go_ret
                exact ⟨by rw [HF2.out] <;> rfl, _, by first | rfl | exact World.drewN_drewN ..⟩
            | false =>
              cases b4 with
              | true =>
                cases xhad <;> cases xhas
                all_goals
                  have HF2 := Lib.hid (HF.out (by intro h; injection h with a1 a2 a3 a4 a5; have := HE.out.2.1; rw [show xnew = ynew from by first | exact a5 | exact_mod_cast a5] at this; simp at this))
                  clear HN HF
                  go_wp2_with fail
                  go_quiet (fail)
                  go_wp2_with fail
                  go_ret
                  exact ⟨by rw [HF2.out] <;> rfl, _, by first | rfl | exact World.drewN_drewN ..⟩
              | false =>
                cases b5 with
                | false =>
                  cases xhad <;> cases xhas
                  all_goals
                    have HF2 := Lib.hid (HF.out (by intro h; injection h with a1 a2 a3 a4 a5; have := HE.out.2.2; rw [a1] at this; simp at this))
                    clear HN HF
                    go_wp2_with fail
                    go_quiet ((go_at_call 59; exact quiet_more (HS.out _ (RdU.drewN HV.out.1 _) (RdU.drewN HV.out.2 _))))
                    go_wp2_with fail
                    go_ret
                    exact ⟨by rw [HF2.out] <;> rfl, _, by first | rfl | exact World.drewN_drewN ..⟩
                | true =>
                  have h1 : xold = yold := by have := HE.out.1; simp only [bne_eq_false_iff_eq] at this; omega
                  have h2 : xnew = ynew := by have := HE.out.2.1; simp only [bne_eq_false_iff_eq] at this; omega
                  have h6 : xp = yp := by have := HE.out.2.2; simpa using this
                  have HN2 := Lib.hid (HN.out (by rw [h1, h2, h6]))
                  clear h1 h2 h6 HN HF HE
                  cases xhad <;> cases xhas
                  all_goals
                    go_wp2_with fail
                    go_quiet ((go_at_call 59; exact quiet_more (HS.out _ (RdU.drewN HV.out.1 _) (RdU.drewN HV.out.2 _))))
                    go_wp2_with fail
                    go_roundw
                    case rel => exact ⟨j + 1, _, by omega, by first | rw [HW.out] | exact congrArg (Value.int .i64) (by omega), HN2.out, by first | rfl | exact World.drewN_drewN ..⟩
                    case measure => first | (rw [intOf_of' HW.out, intOf_of' rfl]; omega) | (rw [intOf_of' rfl, intOf_of' rfl]; omega)
      · have HA := Lib.hid (show eqL l m = true from eqL_true (by rw [List.take_of_length_le (by omega), List.take_of_length_le (by have := HL.out; omega)] at htk; exact htk))
        clear htk
        go_wp2_with fail
        go_ret
        exact ⟨by rw [HA.out] <;> rfl, _, rfl⟩
  · have hne : ((l.length : Int) != (m.length : Int)) = true := by simp; omega
    have HF := Lib.hid (show eqL l m = false from eqL_false fun h => hlm (by rw [h]))
    clear hlm ga0 gb0
    go_enter Tryz.func19, Tryz.ntmps19
    go_wp2_with fail
    go_ret
    exact ⟨by rw [HF.out] <;> rfl, 0, rfl⟩
end Go.Proofs.YtjokcagggmjgmaaGreat
/-! LawEdit -/
namespace Go.Proofs.YtjokcagggmjgmaaGreat
open Go.RowKit
set_option linter.unusedVariables false
set_option linter.unusedSimpArgs false

theorem RdC.one {w : World} {b cc : Nat} {c : Ch} (h : ChAt w b 0 c) : RdC w (.slice (some ⟨b, 0, none⟩) 1 cc) [c] :=
  ⟨_, cc, rfl, fun _ => ⟨b, 0, rfl, fun j hj => by
    obtain rfl : j = 0 := by simp at hj; omega
    simpa using h⟩⟩
theorem CapOk.one (b : Nat) : CapOk (.slice (some ⟨b, 0, none⟩) 1 1) := ⟨_, 1, 1, rfl, Nat.le_refl _, by simp [maxLen], fun _ => ⟨_, _, rfl⟩⟩
def xp4 : List Nat := [4, 0]
def xa : List Ch := [⟨xp4, false, true, 0, 3⟩]
def xb : List Ch := [⟨xp4, true, true, 3, 5⟩]
def xx : List Ch := [⟨xp4, false, true, 0, 5⟩]
def xc : List Ch := [⟨xp4, true, false, 5, 0⟩]
theorem xcmp : Zb.cmp xp4 xp4 = 0 := (cmp_zero _ _).2 rfl
theorem pairs_one (p q : List Nat) (h1 h2 h3 h4 : Bool) (a b c d : Nat) (h : Zb.cmp p q = 0) : pairs [⟨p, h1, h2, a, b⟩] [⟨q, h3, h4, c, d⟩] = [(some ⟨p, h1, h2, a, b⟩, some ⟨q, h3, h4, c, d⟩)] := by
  unfold pairs
  simp only [List.length_cons, List.length_nil, pairsL, h]
  rfl
theorem xthen1 : thenL xa xb = some xx := by
  unfold thenL xa xb
  rw [pairs_one _ _ _ _ _ _ _ _ _ _ xcmp]
  rfl
theorem xthen2 : thenL xx xc = some [] := by
  unfold thenL xx xc
  rw [pairs_one _ _ _ _ _ _ _ _ _ _ xcmp]
  rfl
theorem xright : rightL 2 xa = true ∧ rightL 2 xb = true ∧ rightL 2 xx = true ∧ rightL 2 xc = true := ⟨rfl, rfl, rfl, rfl⟩
theorem xok (h1 h2 : Bool) (a b : Nat) : OkC [⟨xp4, h1, h2, a, b⟩] := by
  intro c hc x hx
  simp only [List.mem_singleton] at hc
  subst hc
  simp only [xp4, List.mem_cons, List.not_mem_nil, or_false] at hx
  rcases hx with rfl | rfl <;> decide
theorem xrd {w : World} {g : Nat} (h0 : w.cell? ⟨g, 0, none⟩ = some (.int .u64 4)) (h1 : w.cell? ⟨g, 1, none⟩ = some (.int .u64 0)) : RdU w (.slice (some ⟨g, 0, none⟩) 2 2) (pti xp4) := RdU.two h0 h1

set_option maxRecDepth 8000 in
set_option maxHeartbeats 2000000 in
theorem awake_any (w : World) : Calls Tryz.prog 11 #[] w fun e w' => e = .returned (.bool true) ∧ Below w.heap.size w w' := by
  have H1 := Lib.hid (fun (va vb : Value) (w : World) (ha : RdC w va xa ∧ CapOk va) (hb : RdC w vb xb ∧ CapOk vb) => eThen_any 2 xa xb va vb w ha hb (by decide) (by decide) (xok _ _ _ _) (xok _ _ _ _))
  rw [xright.1, xright.2.1, xthen1] at H1
  have H2 := Lib.hid (fun (va vb : Value) (w : World) (ha : RdC w va xx ∧ CapOk va) (hb : RdC w vb xc ∧ CapOk vb) => eThen_any 2 xx xc va vb w ha hb (by decide) (by decide) (xok _ _ _ _) (xok _ _ _ _))
  rw [xright.2.2.1, xright.2.2.2, xthen2] at H2
  have H3 := Lib.hid (fun (va vb : Value) (w : World) (ha : RdC w va xx) (hb : RdC w vb xx) => rSameC_any xx xx va vb w ha hb (by decide) (by intro c hc; simp only [xx, List.mem_singleton] at hc; subst hc; decide))
  rw [eqL_true rfl] at H3
  go_enter Tryz.func11, Tryz.ntmps11
  go_wp2_with fail
  refine (H1.out _ _ _ ⟨RdC.one ?_, CapOk.one _⟩ ⟨RdC.one ?_, CapOk.one _⟩).mono ?_
  · refine ⟨.slice (some ⟨w.heap.size, 0, none⟩) 2 2, ?_, xrd ?_ ?_, ?_, ?_, ?_, ?_⟩ <;> simp [go_sem]
  · refine ⟨.slice (some ⟨w.heap.size, 0, none⟩) 2 2, ?_, xrd ?_ ?_, ?_, ?_, ?_, ?_⟩ <;> simp [go_sem]
  rintro e w1 ⟨⟨A, c, rfl, hr1, hc1⟩, hb1⟩
  have HR1 := Lib.hid (And.intro hr1 hc1)
  have HB1 := Lib.hid (show Below w.heap.size w w1 from (show Below w.heap.size w _ from below_alloc' (below_alloc' (below_alloc' (Below.refl _ _) _) _) _).trans (hb1.mono (by simp; omega)))
  have k0 : w1.cell? ⟨w.heap.size, 0, none⟩ = some (.int .u64 4) := Below.keeps hb1 _ _ (by simp [go_sem])
  have k1 : w1.cell? ⟨w.heap.size, 1, none⟩ = some (.int .u64 0) := Below.keeps hb1 _ _ (by simp [go_sem])
  have hl1 : w.heap.size < w1.heap.size := World.block_lt_of_cell? w1 _ k0
  have hl1' : w.heap.size < w1.heap.size + 1 := by omega
  clear hb1 hr1 hc1
  go_wp2_with fail
  refine (H2.out _ _ _ ⟨HR1.out.1.below (by repeat (first | exact Below.refl _ _ | assumption | (refine Below.drew ?_) | (refine below_drewN' ?_ _) | (refine below_alloc' ?_ _))), HR1.out.2⟩ ⟨RdC.one ?_, CapOk.one _⟩).mono ?_
  · refine ⟨.slice (some ⟨w.heap.size, 0, none⟩) 2 2, ?_, xrd ?_ ?_, ?_, ?_, ?_, ?_⟩ <;> first | (simp [go_sem, k0, k1, hl1]; done) | exact Below.keeps (w := w1) (by repeat (first | exact Below.refl _ _ | assumption | (refine Below.drew ?_) | (refine below_drewN' ?_ _) | (refine below_alloc' ?_ _))) _ _ k0 | exact Below.keeps (w := w1) (by repeat (first | exact Below.refl _ _ | assumption | (refine Below.drew ?_) | (refine below_drewN' ?_ _) | (refine below_alloc' ?_ _))) _ _ k1
  rintro e w2 ⟨⟨A2, c2, rfl, hr2, hc2⟩, hb2⟩
  have HX2 := Lib.hid ((show Below w1.heap.size w1 _ from below_alloc' (Below.refl _ _) _).trans (hb2.mono (by simp)))
  have HR2 := Lib.hid (HR1.out.1.below HX2.out)
  have HB2 := Lib.hid (HB1.out.trans (HX2.out.mono HB1.out.size))
  replace k0 := Below.keeps HX2.out _ _ k0
  replace k1 := Below.keeps HX2.out _ _ k1
  have hl2 : w.heap.size < w2.heap.size := World.block_lt_of_cell? w2 _ k0
  have hl2' : w.heap.size < w2.heap.size + 1 := by omega
  clear hb2 hr2 hc2
  go_wp2_with fail
  refine (H3.out _ _ _ (HR2.out.below (by repeat (first | exact Below.refl _ _ | assumption | (refine Below.drew ?_) | (refine below_drewN' ?_ _) | (refine below_alloc' ?_ _)))) (RdC.one ?_)).mono ?_
  · refine ⟨.slice (some ⟨w.heap.size, 0, none⟩) 2 2, ?_, xrd ?_ ?_, ?_, ?_, ?_, ?_⟩ <;> first | (simp [go_sem, k0, k1, hl2]; done) | exact Below.keeps (w := w2) (by repeat (first | exact Below.refl _ _ | assumption | (refine Below.drew ?_) | (refine below_drewN' ?_ _) | (refine below_alloc' ?_ _))) _ _ k0 | exact Below.keeps (w := w2) (by repeat (first | exact Below.refl _ _ | assumption | (refine Below.drew ?_) | (refine below_drewN' ?_ _) | (refine below_alloc' ?_ _))) _ _ k1
  rintro e w3 ⟨rfl, n, rfl⟩
  have hb2 := HB2.out
  go_wp2_with fail
  go_ret
  exact ⟨rfl, (by repeat (first | exact Below.refl _ _ | assumption | (refine Below.drew ?_) | (refine below_drewN' ?_ _) | (refine below_alloc' ?_ _)))⟩
end Go.Proofs.YtjokcagggmjgmaaGreat
/-! Chg3 -/
namespace Go.Proofs.YtjokcagggmjgmaaGreat
open Go.RowKit
set_option linter.unusedVariables false

set_option maxRecDepth 100000 in
set_option maxHeartbeats 8000000 in
theorem rRight_any (k : Int) (l : List Ch) (v : Value) (w : World) (hv : RdC w v l) (hl : l.length ≤ 1000) (hok : OkC l) :
    Calls Tryz.prog 15 #[.int .i64 k, v] w fun e w' => e = .returned (.bool (rightL k l)) ∧ Below w.heap.size w w' := by
  by_cases hk1 : k < 1
  · have HE := Lib.hid (show rightL k l = false by unfold rightL; rw [decide_eq_false (by omega)]; rfl)
    clear hv hok
    go_enter Tryz.func15, Tryz.ntmps15
    go_wp2_with fail
    go_ret
    exact ⟨by rw [HE.out]; rfl, (by repeat (first | exact Below.refl _ _ | assumption | (refine Below.drew ?_) | (refine below_drewN' ?_ _) | (refine below_alloc' ?_ _)))⟩
  by_cases hk2 : k > 16
  · have HE := Lib.hid (show rightL k l = false by unfold rightL; rw [decide_eq_false (by omega)]; rfl)
    clear hv hok
    go_enter Tryz.func15, Tryz.ntmps15
    go_wp2_with fail
    go_ret
    exact ⟨by rw [HE.out]; rfl, (by repeat (first | exact Below.refl _ _ | assumption | (refine Below.drew ?_) | (refine below_drewN' ?_ _) | (refine below_alloc' ?_ _)))⟩
  have HR := Lib.hid (show rightL k l = chainB k none l by unfold rightL; rw [decide_eq_true (by omega)]; rfl)
  obtain ⟨A, c, rfl, ga0⟩ := hv
  have HD := Lib.hid (And.intro hl hok)
  have HG := Lib.hid ga0
  clear hl hok ga0
  go_enter Tryz.func15, Tryz.ntmps15
  go_wp2_with fail
  go_loopw [5] (fun i wr => ∃ j : Nat, j ≤ l.length ∧ i = .int .i64 j ∧ chainB k (prevOf l j) (l.drop j) = rightL k l ∧ (0 < j → ∀ h : j - 1 < l.length, (l[j - 1].p.length : Int) = k) ∧ Below w.heap.size w wr) (fun i _ => l.length - (intOf i).toNat)
  case atStart => exact ⟨0, Nat.zero_le _, rfl, HR.out.symm, fun h => by omega, (by repeat (first | exact Below.refl _ _ | assumption | (refine Below.drew ?_) | (refine below_drewN' ?_ _) | (refine below_alloc' ?_ _)))⟩
  case round =>
    obtain ⟨j, hj, rfl, hc, hlast, hb⟩ := hrel
    by_cases hlt : j < l.length
    · have h3 : (j : Int) < l.length := by omega
      have h5 : (0 : Int) ≤ (j : Int) := by omega
      obtain ⟨b, o, rfl, ga⟩ := HG.out (by omega)
      have GA := Lib.hid ga
      obtain ⟨v0, c0, hv0, c1, c2, c3, c4⟩ := (ga j hlt).keep (Below.keeps hb)
      have hv0' := Lib.hid hv0
      obtain ⟨A0, cc, rfl, hx0⟩ := RdU.point hv0
      have hok := HD.out.2 l[j] (List.getElem_mem hlt)
      have HW := Lib.hid (show wrap64 ((j : Int) + 1) = ((j + 1 : Nat) : Int) by have := HD.out.1; unfold wrap64; omega)
      have hblt : b < wr.heap.size := World.block_lt_of_cell? wr _ c0
      have HB := Lib.hid hb
      have HPS := Lib.hid (prevOf_succ l j hlt)
      rw [List.drop_eq_getElem_cons hlt] at hc
      simp only [chainB] at hc
      have HC := Lib.hid hc
      have HOK := Lib.hid hok
      have HL := Lib.hid hlast
      have HRr := Lib.hid (show l[j].right = rightBits l[j].had l[j].has ((l[j].old : Int) != 0) ((l[j].new : Int) != 0) ((l[j].old : Int) != (l[j].new : Int)) from rfl)
      clear hx0 ga hb hc hok hlast hv0
      by_cases he : (l[j].p.length : Int) = k
      · have hne : ((l[j].p.length : Int) != k) = false := by simp [he]
        by_cases hr : l[j].right = true
        · rw [hr] at HRr
          have HE1 := HC.out
          rw [decide_eq_true he, hr, Bool.true_and, Bool.true_and] at HE1
          have HK := Lib.hid he
          have hjj : w.heap.size ≤ w.heap.size := Nat.le_refl _
          by_cases hj0 : j = 0
          · have e0 : ¬ (j : Int) > 0 := by omega
            have e0n : decide (0 < j) = false := by simp; omega
            rw [show prevOf l j = none by unfold prevOf; rw [if_pos hj0]] at HE1
            simp only [Bool.true_and] at HE1
            rw [← HPS.out] at HE1
            have HE := Lib.hid HE1
            clear HE1 he hr hj0
            have h := HB.out
            generalize l[j].had = had at *
            generalize l[j].has = has at *
            generalize l[j].old = old at *
            generalize l[j].new = new at *
            obtain ⟨b1, q1⟩ : ∃ b, ((old : Int) != 0) = b := ⟨_, rfl⟩
            obtain ⟨b2, q2⟩ : ∃ b, ((new : Int) != 0) = b := ⟨_, rfl⟩
            obtain ⟨b3, q3⟩ : ∃ b, ((old : Int) == (new : Int)) = b := ⟨_, rfl⟩
            rw [q1, q2, show ((old : Int) != (new : Int)) = !b3 from by rw [← q3]; rfl] at HRr
            cases had <;> cases has <;> cases b1 <;> cases b2 <;> cases b3
            all_goals first
              | exact absurd HRr.out (by decide)
              | (go_wp2_with fail
                 go_quiet (fail)
                 go_wp2_with fail
                 go_roundw
                 case rel => exact ⟨j + 1, by omega, by first | rw [HW.out] | exact congrArg (Value.int .i64) (by omega), HE.out, fun _ _ => HK.out, (by repeat (first | exact Below.refl _ _ | assumption | (refine Below.drew ?_) | (refine below_drewN' ?_ _) | (refine below_alloc' ?_ _)))⟩
                 case measure => first | (rw [intOf_of' HW.out, intOf_of' rfl]; omega) | (rw [intOf_of' rfl, intOf_of' rfl]; omega))
          · have e0 : (j : Int) > 0 := by omega
            have e0n : decide (0 < j) = true := by simp; omega
            obtain ⟨i, hi⟩ : ∃ i, j = i + 1 := ⟨j - 1, by omega⟩
            have hil : i < l.length := by omega
            have ei : wrap64 ((j : Int) - 1) = (i : Int) := by have := HD.out.1; unfold wrap64; omega
            have hi3 : (i : Int) < l.length := by omega
            have hi5 : (0 : Int) ≤ (i : Int) := by omega
            have hki : (l[i].p.length : Int) = k := by
              have := HL.out (by omega) (by omega)
              simp only [hi, Nat.add_sub_cancel] at this
              exact this
            rw [show prevOf l j = some l[i].p by unfold prevOf; rw [if_neg hj0, hi]; simp [hil]] at HE1
            simp only at HE1
            obtain ⟨v1, d0, hv1, d1, d2, d3, d4⟩ := (GA.out i hil).keep (Below.keeps HB.out)
            have hv1' := Lib.hid hv1
            obtain ⟨A1, cc1, rfl, hx1⟩ := RdU.point hv1
            have HCm := Lib.hid (fun (w' : World) (h1 : RdU w' (.slice A1 l[i].p.length cc1) (pti l[i].p)) (h2 : RdU w' (.slice A0 l[j].p.length cc) (pti l[j].p)) => rCmp_any l[i].p l[j].p (.slice A1 l[i].p.length cc1) (.slice A0 l[j].p.length cc) w' h1 h2 (by omega) (by omega) (HD.out.2 _ (List.getElem_mem hil)) HOK.out)
            clear hx1 d1 d2 d3 d4 hv1 hki
            have hblt1 : b < wr.heap.size + 1 := by omega
            have hblt2 : b < wr.heap.size + 1 + 1 := by omega
            by_cases hz : Zb.cmp l[i].p l[j].p < 0
            · rw [decide_eq_true hz, Bool.true_and, ← HPS.out] at HE1
              have HE := Lib.hid HE1
              clear HE1 he hr hj0 hi
              generalize Zb.cmp l[i].p l[j].p = z at *
              have hz' : ¬ z ≥ 0 := by omega
              have h := HB.out
              generalize l[j].had = had at *
              generalize l[j].has = has at *
              generalize l[j].old = old at *
              generalize l[j].new = new at *
              obtain ⟨b1, q1⟩ : ∃ b, ((old : Int) != 0) = b := ⟨_, rfl⟩
              obtain ⟨b2, q2⟩ : ∃ b, ((new : Int) != 0) = b := ⟨_, rfl⟩
              obtain ⟨b3, q3⟩ : ∃ b, ((old : Int) == (new : Int)) = b := ⟨_, rfl⟩
              rw [q1, q2, show ((old : Int) != (new : Int)) = !b3 from by rw [← q3]; rfl] at HRr
              cases had <;> cases has <;> cases b1 <;> cases b2 <;> cases b3
              all_goals first
                | exact absurd HRr.out (by decide)
                | (go_wp2_with fail
                   go_quiet ((go_at_call 52; exact Calls.quiet_of_same ((HCm.out _ (RdU.drewN (RdU.below hv1'.out (by repeat (first | exact Below.refl _ _ | assumption | (refine Below.drew ?_) | (refine below_drewN' ?_ _) | (refine below_alloc' ?_ _)))) _) (RdU.drewN (RdU.below hv0'.out (by repeat (first | exact Below.refl _ _ | assumption | (refine Below.drew ?_) | (refine below_drewN' ?_ _) | (refine below_alloc' ?_ _)))) _)).mono fun e w' ⟨h1, h2⟩ => ⟨h1, h2⟩)))
                   go_wp2_with fail
                   go_roundw
                   case rel => exact ⟨j + 1, by omega, by first | rw [HW.out] | exact congrArg (Value.int .i64) (by omega), HE.out, fun _ _ => HK.out, (by repeat (first | exact Below.refl _ _ | assumption | (refine Below.drew ?_) | (refine below_drewN' ?_ _) | (refine below_alloc' ?_ _)))⟩
                   case measure => first | (rw [intOf_of' HW.out, intOf_of' rfl]; omega) | (rw [intOf_of' rfl, intOf_of' rfl]; omega))
            · rw [decide_eq_false hz, Bool.false_and] at HE1
              have HE := Lib.hid HE1
              clear HE1 he hr hj0 hi
              generalize Zb.cmp l[i].p l[j].p = z at *
              have hz' : z ≥ 0 := by omega
              have h := HB.out
              generalize l[j].had = had at *
              generalize l[j].has = has at *
              generalize l[j].old = old at *
              generalize l[j].new = new at *
              obtain ⟨b1, q1⟩ : ∃ b, ((old : Int) != 0) = b := ⟨_, rfl⟩
              obtain ⟨b2, q2⟩ : ∃ b, ((new : Int) != 0) = b := ⟨_, rfl⟩
              obtain ⟨b3, q3⟩ : ∃ b, ((old : Int) == (new : Int)) = b := ⟨_, rfl⟩
              rw [q1, q2, show ((old : Int) != (new : Int)) = !b3 from by rw [← q3]; rfl] at HRr
              cases had <;> cases has <;> cases b1 <;> cases b2 <;> cases b3
              all_goals first
                | exact absurd HRr.out (by decide)
                | (go_wp2_with fail
                   go_quiet ((go_at_call 52; exact Calls.quiet_of_same ((HCm.out _ (RdU.drewN (RdU.below hv1'.out (by repeat (first | exact Below.refl _ _ | assumption | (refine Below.drew ?_) | (refine below_drewN' ?_ _) | (refine below_alloc' ?_ _)))) _) (RdU.drewN (RdU.below hv0'.out (by repeat (first | exact Below.refl _ _ | assumption | (refine Below.drew ?_) | (refine below_drewN' ?_ _) | (refine below_alloc' ?_ _)))) _)).mono fun e w' ⟨h1, h2⟩ => ⟨h1, h2⟩)))
                   go_wp2_with fail
                   go_ret
                   exact ⟨by rw [← HE.out]; rfl, (by repeat (first | exact Below.refl _ _ | assumption | (refine Below.drew ?_) | (refine below_drewN' ?_ _) | (refine below_alloc' ?_ _)))⟩)
        · have hr : l[j].right = false := by simpa using hr
          rw [hr] at HRr
          have HE := Lib.hid (show rightL k l = false by rw [← HC.out, hr]; simp)
          clear he hr
          have h := HB.out
          generalize l[j].had = had at *
          generalize l[j].has = has at *
          generalize l[j].old = old at *
          generalize l[j].new = new at *
          obtain ⟨b1, q1⟩ : ∃ b, ((old : Int) != 0) = b := ⟨_, rfl⟩
          obtain ⟨b2, q2⟩ : ∃ b, ((new : Int) != 0) = b := ⟨_, rfl⟩
          obtain ⟨b3, q3⟩ : ∃ b, ((old : Int) == (new : Int)) = b := ⟨_, rfl⟩
          rw [q1, q2, show ((old : Int) != (new : Int)) = !b3 from by rw [← q3]; rfl] at HRr
          cases had <;> cases has <;> cases b1 <;> cases b2 <;> cases b3
          all_goals first
            | exact absurd HRr.out (by decide)
            | (go_wp2_with fail
               go_ret
               exact ⟨by rw [HE.out]; rfl, (by repeat (first | exact Below.refl _ _ | assumption | (refine Below.drew ?_) | (refine below_drewN' ?_ _) | (refine below_alloc' ?_ _)))⟩)
      · have hne : ((l[j].p.length : Int) != k) = true := by simpa using he
        have HE := Lib.hid (show rightL k l = false by rw [← HC.out, decide_eq_false he]; simp)
        have h := HB.out
        clear he
        go_wp2_with fail
        go_ret
        exact ⟨by rw [HE.out]; rfl, (by repeat (first | exact Below.refl _ _ | assumption | (refine Below.drew ?_) | (refine below_drewN' ?_ _) | (refine below_alloc' ?_ _)))⟩
    · have HE := Lib.hid (show rightL k l = true by rw [← hc, List.drop_of_length_le (by omega)]; unfold chainB; rfl)
      have HB := Lib.hid hb
      clear hc hlast hb
      go_wp2_with fail
      go_ret
      exact ⟨by rw [HE.out]; rfl, HB.out⟩
end Go.Proofs.YtjokcagggmjgmaaGreat
/-! OpenC -/
namespace Go.Proofs.YtjokcagggmjgmaaGreat
open Go.RowKit Go.ChangeShapes Go.WideShapes Go.Deep
set_option linter.unusedVariables false

section
variable {H : Type} {enc : TypeId × Value → H} {P : Program} {w : World} {base : Nat} {spare : Nat → Bool} {held : Bool}
theorem open_slice_fields {t e : TypeId} {fs : Array Field} {fuel : Nat} {cs : List Value} {x : DataW H × List MemPlace} (ht : P.underlying t = some (.slice e)) (he : P.underlying e = some (.struct fs))
    (hone : oneCellFields P fs = true) (hC : P.cellsOf e = fs.size) (h : DataW.trod enc P w base spare held fuel t cs = some x) :
    (cs = [.slice none 0 0]) ∨
    ∃ (a : Addr) (len cap m : Nat), cs = [.slice (some a) len cap] ∧ len ≤ cap ∧ cap ≤ maxLen ∧ m = (if spare a.block then cap else len) ∧
      ∀ i, i < m → ∀ (j : Nat) (f : Field), fs[j]? = some f → ∃ (v : Value) (y : DataW H × List MemPlace) (n : Nat), w.cell? (a.add (i * fs.size + j)) = some v ∧ DataW.trod enc P w base spare held n f.type [v] = some y := by
  rcases open_slice ht h with h0 | ⟨a, len, cap, m, n, D, Pl, hcs, hb, hl, hm, hmm, hx, hi⟩
  · exact .inl h0.1
  · refine .inr ⟨a, len, cap, m, hcs, hl, hm, hmm, fun i him => ?_⟩
    obtain ⟨cs', hc, ht'⟩ := hi i him
    rw [hC] at hc
    obtain ⟨ys, n', hn', hy, hlen, hyl, hf⟩ := DataW.trod_struct he ht'
    obtain ⟨_, hcl, hat⟩ := World.cells?_some hc
    intro j f hj
    obtain ⟨ho, hk⟩ := hone_of hone j f hj
    have hjl : j < fs.size := (Array.getElem?_eq_some_iff.1 hj).1
    have hcell := hat j hjl
    have hv : cs'[j]? = some (cs'[j]'(by omega)) := List.getElem?_eq_getElem (by omega)
    have h1 := hf j f hj
    rw [ho, hk] at h1
    have hone' : (cs'.drop j).take 1 = [cs'[j]'(by omega)] := by
      rw [List.drop_eq_getElem_cons (by omega)]
      rfl
    rw [hone'] at h1
    have hys : ys[j]? = some (ys[j]'(by omega)) := List.getElem?_eq_getElem (by omega)
    refine ⟨_, _, n', ?_, h1.trans hys⟩
    rw [← Go.Deep.add_add, hcell, hv]
end
theorem spot_none {w : World} {a : Addr} {v : Value} (h : w.cell? a = some v) : ∃ b o, a = ⟨b, o, none⟩ := by
  obtain ⟨b, o, sp⟩ := a
  cases sp with
  | none => exact ⟨b, o, rfl⟩
  | some q => simp [World.cell?] at h; split at h <;> cases h
theorem add_plain (b o j : Nat) : (⟨b, o, none⟩ : Addr).add j = ⟨b, o + j, none⟩ := by
  unfold Addr.add; split
  · rename_i h; subst h; rfl
  · rfl
theorem pti_toNat {xs : List Int} (h : ∀ x ∈ xs, 0 ≤ x ∧ x ≤ 18446744073709551615) : pti (xs.map Int.toNat) = xs := by
  unfold pti
  rw [List.map_map]
  conv => rhs; rw [← List.map_id xs]
  apply List.map_congr_left
  intro x hx
  have := h x hx
  simp only [Function.comp_apply, id]
  omega
instance : Inhabited Ch := ⟨⟨[], false, false, 0, 0⟩⟩
theorem open_changes {H : Type} {enc : TypeId × Value → H} {W : World} {base : Nat} {held : Bool} {v : Value} {x : DataW H × List MemPlace} {fuel : Nat}
    (h : DataW.trod enc Tryz.prog W base (fun _ => true) held fuel 23 [v] = some x) :
    ∃ l : List Ch, RdC W v l ∧ OkC l ∧ l.length ≤ maxLen ∧ ∃ A n c, v = .slice A n c ∧ n ≤ c ∧ c ≤ maxLen ∧ (0 < c → ∃ b o, A = some ⟨b, o, none⟩) := by
  have hu : ∃ fs, Tryz.prog.underlying 83 = some (.struct fs) ∧ fs.size = 5 ∧ (fs[0]?.map (·.type) = some 48) ∧ (fs[1]?.map (·.type) = some 4) ∧ (fs[2]?.map (·.type) = some 4) ∧ (fs[3]?.map (·.type) = some 49) ∧ (fs[4]?.map (·.type) = some 49) ∧ oneCellFields Tryz.prog fs = true ∧ Tryz.prog.cellsOf 83 = fs.size :=
    ⟨_, Tryz.underlying83, by kernel_rfl, by kernel_rfl, by kernel_rfl, by kernel_rfl, by kernel_rfl, by kernel_rfl, by kernel_rfl, by kernel_rfl⟩
  obtain ⟨fs, he, hs, t0, t1, t2, t3, t4, hone, hC⟩ := hu
  rcases open_slice_fields Tryz.underlying23 he hone hC h with h0 | ⟨a, len, cap, m, hcs, hl, hm, hmm, hf⟩
  · simp only [List.cons.injEq, and_true] at h0
    subst h0
    exact ⟨[], ⟨none, 0, rfl, fun h => absurd h (by simp)⟩, fun c hc => by simp at hc, by simp [maxLen], none, 0, 0, rfl, Nat.le_refl _, Nat.zero_le _, fun h => absurd h (by omega)⟩
  · simp only [List.cons.injEq, and_true] at hcs
    subst hcs
    have hlm : len ≤ m := by rw [hmm]; split <;> omega
    rw [hs] at hf
    have hmc : m = cap := by rw [hmm]; rfl
    have hab : 0 < cap → ∃ b o, a = ⟨b, o, none⟩ := by
      intro h0
      obtain ⟨f0, q0, r0⟩ := Option.map_eq_some_iff.1 t0
      obtain ⟨v0, y0, n0, c0, d0⟩ := hf 0 (by omega) 0 f0 q0
      exact spot_none (by simpa [Addr.add] using c0)
    have each : ∀ i, i < len → ∃ c : Ch, (∀ x ∈ c.p, x < 2 ^ 64) ∧ ∃ b o, a = ⟨b, o, none⟩ ∧ ChAt W b (o + i * 5) c := by
      intro i hi
      have hfi := hf i (by omega)
      obtain ⟨f0, q0, r0⟩ := Option.map_eq_some_iff.1 t0
      obtain ⟨f1, q1, r1⟩ := Option.map_eq_some_iff.1 t1
      obtain ⟨f2, q2, r2⟩ := Option.map_eq_some_iff.1 t2
      obtain ⟨f3, q3, r3⟩ := Option.map_eq_some_iff.1 t3
      obtain ⟨f4, q4, r4⟩ := Option.map_eq_some_iff.1 t4
      obtain ⟨v0, y0, n0, c0, d0⟩ := hfi 0 f0 q0
      obtain ⟨v1, y1, n1, c1, d1⟩ := hfi 1 f1 q1
      obtain ⟨v2, y2, n2, c2, d2⟩ := hfi 2 f2 q2
      obtain ⟨v3, y3, n3, c3, d3⟩ := hfi 3 f3 q3
      obtain ⟨v4, y4, n4, c4, d4⟩ := hfi 4 f4 q4
      rw [r0] at d0; rw [r1] at d1; rw [r2] at d2; rw [r3] at d3; rw [r4] at d4
      obtain ⟨b, o, ha⟩ := hab (by omega)
      subst ha
      rw [add_plain] at c0 c1 c2 c3 c4
      obtain ⟨b1, e1, _⟩ := DataW.trod_bool Tryz.underlying4 d1
      obtain ⟨b2, e2, _⟩ := DataW.trod_bool Tryz.underlying4 d2
      obtain ⟨i3, e3, _, w3⟩ := DataW.trod_int Tryz.underlying49 d3
      obtain ⟨i4, e4, _, w4⟩ := DataW.trod_int Tryz.underlying49 d4
      simp only [List.cons.injEq, and_true] at e1 e2 e3 e4
      subst e1 e2 e3 e4
      have g3 := bounds_u64 w3
      have g4 := bounds_u64 w4
      have hp : ∃ xs : List Int, (∀ x ∈ xs, 0 ≤ x ∧ x ≤ 18446744073709551615) ∧ RdU W v0 xs := by
        rcases open_ints Tryz.underlying48 Tryz.underlying49 (by kernel_rfl) d0 with ⟨hcs, _⟩ | ⟨x, l, c, zs, hcs, _, hl, hm, hz, _, hcell, hwz⟩
        · simp only [List.cons.injEq, and_true] at hcs
          subst hcs
          exact ⟨[], fun x hx => by simp at hx, RdU.nil _ _ _⟩
        · simp only [List.cons.injEq, and_true] at hcs
          subst hcs
          obtain ⟨xs, _, _, h3, h4⟩ := RdU.of_row (w := W) (a := some x) (len := l) (cap := c) (zs := zs) (.inr ⟨_, rfl, hl, hm, by simpa using hz, hcell, hwz⟩)
          exact ⟨xs, h3, h4⟩
      obtain ⟨xs, h5, h6⟩ := hp
      refine ⟨⟨xs.map Int.toNat, b1, b2, i3.toNat, i4.toNat⟩, fun y hy => ?_, b, o, rfl, v0, by simpa [Nat.add_assoc] using c0, by rw [pti_toNat h5]; exact h6, ?_, ?_, ?_, ?_⟩
      · simp only [List.mem_map] at hy
        obtain ⟨z, hz, rfl⟩ := hy
        have := h5 z hz
        omega
      · rw [Nat.add_assoc]; exact c1
      · rw [Nat.add_assoc]; exact c2
      · rw [Nat.add_assoc, show ((i3.toNat : Nat) : Int) = i3 by omega]; exact c3
      · rw [Nat.add_assoc, show ((i4.toNat : Nat) : Int) = i4 by omega]; exact c4
    obtain ⟨f, hF⟩ := choose_lt each
    refine ⟨(List.range len).map f, ⟨some a, cap, by simp, fun hp => ?_⟩, ?_, by simp; omega, some a, len, cap, rfl, hl, hm, fun h => ?_⟩
    · have hp' : 0 < len := by simpa using hp
      obtain ⟨_, b, o, ha, _⟩ := hF 0 hp'
      refine ⟨b, o, by rw [ha], fun j hj => ?_⟩
      obtain ⟨_, b', o', ha', hc⟩ := hF j (by simpa using hj)
      rw [ha] at ha'
      injection ha' with e1 e2
      subst e1 e2
      simpa using hc
    · intro c hc
      simp only [List.mem_map, List.mem_range] at hc
      obtain ⟨i, hi, rfl⟩ := hc
      exact (hF i hi).1
    · obtain ⟨b, o, ha⟩ := hab h
      exact ⟨b, o, by rw [ha]⟩
end Go.Proofs.YtjokcagggmjgmaaGreat
/-! OpenA -/
namespace Go.Proofs.YtjokcagggmjgmaaGreat
open Go.RowKit Go.ChangeShapes Go.WideShapes Go.Deep
set_option linter.unusedVariables false

/-- an act's numbers, whatever its point's length -/
def Ac.OkV (a : Ac) : Prop := (∀ c ∈ a.p, c < 2 ^ 64) ∧ a.v < 2 ^ 64
theorem open_acts {H : Type} {enc : TypeId × Value → H} {W : World} {base : Nat} {held : Bool} {v : Value} {x : DataW H × List MemPlace} {fuel : Nat}
    (h : DataW.trod enc Tryz.prog W base (fun _ => true) held fuel 22 [v] = some x) :
    ∃ l, RdA W v l ∧ (∀ c ∈ l, Ac.OkV c) ∧ l.length ≤ maxLen ∧ ∃ A n c, v = .slice A n c ∧ n ≤ c ∧ c ≤ maxLen ∧ (0 < c → ∃ b o, A = some ⟨b, o, none⟩) := by
  have hu : ∃ fs, Tryz.prog.underlying 86 = some (.struct fs) ∧ fs.size = 3 ∧ (fs[0]?.map (·.type) = some 4) ∧ (fs[1]?.map (·.type) = some 48) ∧ (fs[2]?.map (·.type) = some 49) ∧ oneCellFields Tryz.prog fs = true ∧ Tryz.prog.cellsOf 86 = fs.size :=
    ⟨_, Tryz.underlying86, by kernel_rfl, by kernel_rfl, by kernel_rfl, by kernel_rfl, by kernel_rfl, by kernel_rfl⟩
  obtain ⟨fs, he, hs, t0, t1, t2, hone, hC⟩ := hu
  rcases open_slice_fields Tryz.underlying22 he hone hC h with h0 | ⟨a, len, cap, m, hcs, hl, hm, hmm, hf⟩
  · simp only [List.cons.injEq, and_true] at h0
    subst h0
    exact ⟨[], ⟨none, 0, rfl, fun h => absurd h (by simp)⟩, fun c hc => by simp at hc, by simp [maxLen], none, 0, 0, rfl, Nat.le_refl _, Nat.zero_le _, fun h => absurd h (by omega)⟩
  · simp only [List.cons.injEq, and_true] at hcs
    subst hcs
    have hlm : len ≤ m := by rw [hmm]; split <;> omega
    rw [hs] at hf
    have hmc : m = cap := by rw [hmm]; rfl
    have hab : 0 < cap → ∃ b o, a = ⟨b, o, none⟩ := by
      intro h0
      obtain ⟨f0, q0, r0⟩ := Option.map_eq_some_iff.1 t0
      obtain ⟨v0, y0, n0, c0, d0⟩ := hf 0 (by omega) 0 f0 q0
      exact spot_none (by simpa [Addr.add] using c0)
    have each : ∀ i, i < len → ∃ c, (Ac.OkV c) ∧ ∃ b o, a = ⟨b, o, none⟩ ∧ AcAt W b (o + i * 3) c := by
      intro i hi
      have hfi := hf i (by omega)
      obtain ⟨f0, q0, r0⟩ := Option.map_eq_some_iff.1 t0
      obtain ⟨f1, q1, r1⟩ := Option.map_eq_some_iff.1 t1
      obtain ⟨f2, q2, r2⟩ := Option.map_eq_some_iff.1 t2
      obtain ⟨v0, y0, n0, c0, d0⟩ := hfi 0 f0 q0
      obtain ⟨v1, y1, n1, c1, d1⟩ := hfi 1 f1 q1
      obtain ⟨v2, y2, n2, c2, d2⟩ := hfi 2 f2 q2
      rw [r0] at d0; rw [r1] at d1; rw [r2] at d2
      obtain ⟨b, o, ha⟩ := hab (by omega)
      subst ha
      rw [add_plain] at c0 c1 c2
      obtain ⟨b0, e0, _⟩ := DataW.trod_bool Tryz.underlying4 d0
      obtain ⟨i2, e2, _, w2⟩ := DataW.trod_int Tryz.underlying49 d2
      simp only [List.cons.injEq, and_true] at e0 e2
      subst e0 e2
      have hp1 : ∃ xs : List Int, (∀ x ∈ xs, 0 ≤ x ∧ x ≤ 18446744073709551615) ∧ RdU W v1 xs := by
        rcases open_ints Tryz.underlying48 Tryz.underlying49 (by kernel_rfl) d1 with ⟨hcs, _⟩ | ⟨x, l, c, zs, hcs, _, hl, hm, hz, _, hcell, hwz⟩
        · simp only [List.cons.injEq, and_true] at hcs
          subst hcs
          exact ⟨[], fun x hx => by simp at hx, RdU.nil _ _ _⟩
        · simp only [List.cons.injEq, and_true] at hcs
          subst hcs
          obtain ⟨xs, _, _, h3, h4⟩ := RdU.of_row (w := W) (a := some x) (len := l) (cap := c) (zs := zs) (.inr ⟨_, rfl, hl, hm, by simpa using hz, hcell, hwz⟩)
          exact ⟨xs, h3, h4⟩
      obtain ⟨xs1, hx1, hv1⟩ := hp1
      have ho1 : ∀ y ∈ xs1.map Int.toNat, y < 2 ^ 64 := fun y hy => by
        simp only [List.mem_map] at hy
        obtain ⟨z, hz, rfl⟩ := hy
        have := hx1 z hz
        omega
      have g2 := bounds_u64 w2
      refine ⟨(⟨b0, xs1.map Int.toNat, i2.toNat⟩ : Ac), ⟨ho1, by show i2.toNat < 2 ^ 64; omega⟩, b, o, rfl, ?_⟩
      have z0 : W.cell? ⟨b, o + i * 3, none⟩ = some (.bool b0) := by simpa [Nat.add_assoc] using c0
      have z1 : W.cell? ⟨b, o + i * 3 + 1, none⟩ = some v1 := by simpa [Nat.add_assoc] using c1
      have y1' : RdU W v1 (pti (xs1.map Int.toNat)) := by rw [pti_toNat hx1]; exact hv1
      have z2 : W.cell? ⟨b, o + i * 3 + 2, none⟩ = some (.int .u64 (i2.toNat : Nat)) := by rw [show ((i2.toNat : Nat) : Int) = i2 by omega]; simpa [Nat.add_assoc] using c2
      exact ⟨v1, z0, by simpa [Nat.add_assoc] using z1, y1', by simpa [Nat.add_assoc] using z2⟩
    obtain ⟨f, hF⟩ := choose_lt each
    refine ⟨(List.range len).map f, ⟨some a, cap, by simp, fun hp => ?_⟩, ?_, by simp; omega, some a, len, cap, rfl, hl, hm, fun h => ?_⟩
    · have hp' : 0 < len := by simpa using hp
      obtain ⟨_, b, o, ha, _⟩ := hF 0 hp'
      refine ⟨b, o, by rw [ha], fun j hj => ?_⟩
      obtain ⟨_, b', o', ha', hc⟩ := hF j (by simpa using hj)
      rw [ha] at ha'
      injection ha' with e1 e2
      subst e1 e2
      simpa using hc
    · intro c hc
      simp only [List.mem_map, List.mem_range] at hc
      obtain ⟨j, hj, rfl⟩ := hc
      exact (hF j hj).1
    · obtain ⟨b, o, ha⟩ := hab h
      exact ⟨b, o, by rw [ha]⟩
end Go.Proofs.YtjokcagggmjgmaaGreat
/-! LawDoes -/
namespace Go.Proofs.YtjokcagggmjgmaaGreat
open Go.RowKit
set_option linter.unusedVariables false
set_option linter.unusedSimpArgs false
set_option maxRecDepth 100000

theorem doL_len (e : List En) (l : List Ch) : (doL e l).length ≤ e.length + l.length := by
  induction l generalizing e with
  | nil => exact Nat.le_refl _
  | cons c l ih =>
    rw [doL_cons]
    have := ih (if c.has then insE c.p c.new e else delE c.p e)
    have h2 : (if c.has then insE c.p c.new e else delE c.p e).length ≤ e.length + 1 := by
      split
      · exact Od.ins_length
      · have : (delE c.p e).length ≤ e.length := Od.del_length
        omega
    simp only [List.length_cons]
    omega
theorem heavyA_ok {l : List Ac} {most : Nat} (h : heavyL l most = false) : l.length ≤ most ∧ ∀ a ∈ l, a.p.length ≤ 40 := by
  unfold heavyL at h
  rw [Bool.or_eq_false_iff] at h
  refine ⟨by have := of_decide_eq_false h.1; omega, fun a ha => ?_⟩
  have := List.any_eq_false.1 h.2 a ha
  simp at this
  omega
theorem heavyC_ok {l : List Ch} {most : Nat} (h : heavyB l most = false) : l.length ≤ most ∧ ∀ c ∈ l, c.p.length ≤ 40 := by
  unfold heavyB at h
  rw [Bool.or_eq_false_iff] at h
  refine ⟨by have := of_decide_eq_false h.1; omega, fun a ha => ?_⟩
  have := List.any_eq_false.1 h.2 a ha
  simp at this
  omega
set_option maxHeartbeats 8000000 in
theorem does_main (w : World) (n : Nat) (l : List Ac) (c : List Ch) (vl vc : Value) (n1 : 1 ≤ n) (n16 : n ≤ 16) (hl : RdA w vl l) (hc : RdC w vc c) (hlo : ∀ a ∈ l, a.OkV) (hco : OkC c ∧ OkV c) (hll : l.length ≤ maxLen)
    (hh : heavyL l 30 = false) (hhc : heavyB c 30 = false) :
    Calls Tryz.prog 3 #[.int .i64 (n : Nat), vl, vc] w fun e w' => e = .returned (.bool true) ∧ Below w.heap.size w w' := by
  have HAW := Lib.hid (fun w' => awake_any w')
  have HB := Lib.hid (Below.refl w.heap.size w)
  have HHE := Lib.hid (fun w' (hb : Below w.heap.size w w') => heavyA_any w' l vl 30 (hl.below hb) hll)
  have HHC := Lib.hid (fun w' (hb : Below w.heap.size w w') => Heavy_any c 30 vc w' (hc.below hb) (by omega))
  rw [show heavyL l 30 = false from hh] at HHE
  rw [hhc] at HHC
  obtain ⟨l30, l40⟩ := heavyA_ok (most := 30) hh
  obtain ⟨c30, c40⟩ := heavyC_ok hhc
  have HGR := Lib.hid (fun w' (hb : Below w.heap.size w w') => grown_any w' n l vl n1 n16 (hl.below hb) (fun a ha => ⟨l40 a ha, (hlo a ha).1, (hlo a ha).2⟩) (by omega))
  have hin : EtS n (playL n [] l) := EtS.play ⟨Et.nil n, by omega, by simp⟩ l (fun a ha => ⟨l40 a ha, (hlo a ha).1, (hlo a ha).2⟩) (by simp; omega)
  have hinl : (playL n [] l).length ≤ 30 := by have := play_len n [] l; simp at this; omega
  have HIN := Lib.hid (And.intro hin hinl)
  generalize playL n [] l = in_ at *
  have HRR := Lib.hid (fun w' (hb : Below w.heap.size w w') => rRight_any (n : Nat) c vc w' (hc.below hb) (by omega) hco.1)
  have HER := Lib.hid (fun w' (hb : Below w.heap.size w w') => eRight_any (n : Nat) c vc w' (hc.below hb) (by omega) hco.1)
  have HEF := Lib.hid (fun t w' (hb : Below w.heap.size w w') (ht : TrR w' t n in_) => eFits_any w' t n in_ c vc ht (hc.below hb) (by omega) hco.1)
  have HED := Lib.hid (fun t w' (hb : Below w.heap.size w w') (ht : TrR w' t n in_) => eDo_any w' t n in_ c vc ht (hc.below hb) (by omega) hco.1 (fun x hx => (hco.2 x hx).2))
  have HUN := Lib.hid (fun w' (hb : Below w.heap.size w w') => eUndo_any w' c vc (hc.below hb) (by omega) c40)
  have HSW := Lib.hid (fun w' (hb : Below w.heap.size w w') => rSwap_any w' c vc (hc.below hb) (by omega))
  have hul : (undoL c).length ≤ 1000 := by unfold undoL; rw [List.length_map]; omega
  have hu40 : ∀ x ∈ undoL c, x.p.length ≤ 40 := by
    intro x hx; unfold undoL at hx; obtain ⟨y, hy, rfl⟩ := List.mem_map.1 hx; exact c40 y hy
  have HSM := Lib.hid (fun va vb w' (ha : RdC w' va (undoL c)) (hb : RdC w' vb (undoL c)) => (rSameC_any (undoL c) (undoL c) va vb w' ha hb hul hu40).mono fun e w'' ⟨q1, q2⟩ => (⟨by rw [q1, eqL_true rfl], q2.elim fun m hm => hm ▸ drewN_below _ _⟩ : e = Ending.returned (.bool true) ∧ Below w'.heap.size w' w''))
  have HPT := Lib.hid (fun h : rightL n c = true => (show ∀ x ∈ c, PtS n x.p from fun x hx => ⟨(right_pts hco.1 h).len x hx, (right_pts hco.1 h).ok x hx⟩))
  have HRF := Lib.hid (fun h vi w' (hb : Below w.heap.size w w') (hi : RdE w' vi in_) => rFits_any w' n in_ c vi vc hi (hc.below hb) (by omega) hin (HPT.out h))
  have HRD := Lib.hid (fun h vi w' (hb : Below w.heap.size w w') (hi : RdE w' vi in_) => rDo_any n in_ c vi vc w' hi (hc.below hb) hin (HPT.out h) (by omega))
  have HIS := Lib.hid (fun t m v w' (ht : TrR w' t n m) (hv : RdE w' v m) (he : EtS n m) => is07_any w' t n m v ht hv he)
  have HE2 := Lib.hid (fun h : rightL n c = true => (show EtS n (doL in_ c) from ⟨(doL_spec (right_pts hco.1 h) in_ hin.et).1, by omega, by have := doL_len in_ c; omega⟩))
  have hro : OkC (undoL c) := by intro x hx; unfold undoL at hx; obtain ⟨y, hy, rfl⟩ := List.mem_map.1 hx; exact hco.1 y hy
  have HD2 := Lib.hid (fun t v w' (ht : TrR w' t n (doL in_ c)) (hv : RdC w' v (undoL c)) => eDo_any w' t n (doL in_ c) (undoL c) v ht hv hul hro (fun x hx => by
    unfold undoL at hx; obtain ⟨y, hy, rfl⟩ := List.mem_map.1 hx; exact (hco.2 y hy).1))
  have HUR := Lib.hid (fun (h : rightL n c = true) (hf : fitsL in_ c = true) => (show rightL n (undoL c) = true ∧ fitsL (doL in_ c) (undoL c) = true ∧ doL (doL in_ c) (undoL c) = in_ from
    ⟨rt_rightL n1 n16 (right_pts hco.1 h).undo, fits_undo hin.et (right_pts hco.1 h), do_undo hin.et (right_pts hco.1 h) hf⟩))
  have hk1 : ¬ (n : Int) < 1 := by omega
  have hk2 : ¬ (n : Int) > 16 := by omega
  obtain ⟨A1, q1, rfl, z1⟩ := hl
  obtain ⟨A2, q2, rfl, z2⟩ := hc
  have HCN := Lib.hid (show (c = [] → c.length = 0) ∧ (c ≠ [] → 0 < c.length) from ⟨fun h => by rw [h]; rfl, fun h => List.length_pos_iff.2 h⟩)
  clear z1 z2 hlo hco hll hh hhc l30 l40 c40 hin hinl hul hu40 hro n1 n16
  go_enter Tryz.func3, Tryz.ntmps3
  go_wp2_with fail
  refine (HAW.out _).mono ?_
  rintro e w9 ⟨rfl, hb9⟩
  have hs9 := below_trans (by repeat (first | exact HB.out | (refine Below.drew ?_) | (refine below_drewN' ?_ _) | (refine below_alloc' ?_ _) | (refine Below.setCell ?_ (by first | exact Nat.le_refl _ | (have := HB.out.size; simp; omega) | (have := HB.out.size; omega)) _))) hb9
  replace HB := Lib.hid hs9
  clear hs9 hb9
  go_wp2_with fail
  refine (HHE.out _ (by repeat (first | exact HB.out | (refine Below.drew ?_) | (refine below_drewN' ?_ _) | (refine below_alloc' ?_ _) | (refine Below.setCell ?_ (by first | exact Nat.le_refl _ | (have := HB.out.size; simp; omega) | (have := HB.out.size; omega)) _)))).mono ?_
  rintro e w9 ⟨rfl, hw9⟩
  obtain rfl := hw9.symm
  clear hw9
  go_wp2_with fail
  refine (HHC.out _ (by repeat (first | exact HB.out | (refine Below.drew ?_) | (refine below_drewN' ?_ _) | (refine below_alloc' ?_ _) | (refine Below.setCell ?_ (by first | exact Nat.le_refl _ | (have := HB.out.size; simp; omega) | (have := HB.out.size; omega)) _)))).mono ?_
  rintro e w9 ⟨rfl, hw9⟩
  obtain rfl := hw9.symm
  clear hw9
  go_wp2_with fail
  refine (HGR.out _ (by repeat (first | exact HB.out | (refine Below.drew ?_) | (refine below_drewN' ?_ _) | (refine below_alloc' ?_ _) | (refine Below.setCell ?_ (by first | exact Nat.le_refl _ | (have := HB.out.size; simp; omega) | (have := HB.out.size; omega)) _)))).mono ?_
  rintro e w1 ⟨t, vin, rfl, ht, hin, hb9⟩
  have hs9 := below_trans (by repeat (first | exact HB.out | (refine Below.drew ?_) | (refine below_drewN' ?_ _) | (refine below_alloc' ?_ _) | (refine Below.setCell ?_ (by first | exact Nat.le_refl _ | (have := HB.out.size; simp; omega) | (have := HB.out.size; omega)) _))) hb9
  replace HB := Lib.hid hs9
  have HT := Lib.hid (And.intro ht hin)
  have HW1 := Lib.hid (Below.refl w1.heap.size w1)
  obtain ⟨A3, q3, rfl, z3⟩ := hin
  clear ht hs9 hb9 z3
  go_wp2_with fail
  cases hr : rightL (n : Int) c with
  | false =>
    rw [hr] at HRR HER HEF
    refine (HRR.out _ (by repeat (first | exact HB.out | (refine Below.drew ?_) | (refine below_drewN' ?_ _) | (refine below_alloc' ?_ _) | (refine Below.setCell ?_ (by first | exact Nat.le_refl _ | (have := HB.out.size; simp; omega) | (have := HB.out.size; omega)) _)))).mono ?_
    rintro e w9 ⟨rfl, hb9⟩
    have hs9 := below_trans (by repeat (first | exact HB.out | (refine Below.drew ?_) | (refine below_drewN' ?_ _) | (refine below_alloc' ?_ _) | (refine Below.setCell ?_ (by first | exact Nat.le_refl _ | (have := HB.out.size; simp; omega) | (have := HB.out.size; omega)) _))) hb9
    replace HB := Lib.hid hs9
    clear hs9
    have hs9 := below_trans (by repeat (first | exact HW1.out | (refine Below.drew ?_) | (refine below_drewN' ?_ _) | (refine below_alloc' ?_ _) | (refine Below.setCell ?_ (by first | exact Nat.le_refl _ | (have := HW1.out.size; simp; omega) | (have := HW1.out.size; omega)) _))) hb9
    replace HW1 := Lib.hid hs9
    clear hs9
    clear hb9
    go_wp2_with fail
    refine (HEF.out t _ (by repeat (first | exact HB.out | (refine Below.drew ?_) | (refine below_drewN' ?_ _) | (refine below_alloc' ?_ _) | (refine Below.setCell ?_ (by first | exact Nat.le_refl _ | (have := HB.out.size; simp; omega) | (have := HB.out.size; omega)) _))) (HT.out.1.bel (by repeat (first | exact HW1.out | (refine Below.drew ?_) | (refine below_drewN' ?_ _) | (refine below_alloc' ?_ _) | (refine Below.setCell ?_ (by first | exact Nat.le_refl _ | (have := HW1.out.size; simp; omega) | (have := HW1.out.size; omega)) _))))).mono ?_
    rintro e w9 ⟨rfl, hb9⟩
    have hs9 := below_trans (by repeat (first | exact HB.out | (refine Below.drew ?_) | (refine below_drewN' ?_ _) | (refine below_alloc' ?_ _) | (refine Below.setCell ?_ (by first | exact Nat.le_refl _ | (have := HB.out.size; simp; omega) | (have := HB.out.size; omega)) _))) hb9
    replace HB := Lib.hid hs9
    clear hs9
    have hs9 := below_trans (by repeat (first | exact HW1.out | (refine Below.drew ?_) | (refine below_drewN' ?_ _) | (refine below_alloc' ?_ _) | (refine Below.setCell ?_ (by first | exact Nat.le_refl _ | (have := HW1.out.size; simp; omega) | (have := HW1.out.size; omega)) _))) hb9
    replace HW1 := Lib.hid hs9
    clear hs9
    clear hb9
    go_wp2_with fail
    refine (HED.out t _ (by repeat (first | exact HB.out | (refine Below.drew ?_) | (refine below_drewN' ?_ _) | (refine below_alloc' ?_ _) | (refine Below.setCell ?_ (by first | exact Nat.le_refl _ | (have := HB.out.size; simp; omega) | (have := HB.out.size; omega)) _))) (HT.out.1.bel (by repeat (first | exact HW1.out | (refine Below.drew ?_) | (refine below_drewN' ?_ _) | (refine below_alloc' ?_ _) | (refine Below.setCell ?_ (by first | exact Nat.le_refl _ | (have := HW1.out.size; simp; omega) | (have := HW1.out.size; omega)) _))))).mono ?_
    rintro e w9 ⟨hb9, hcase⟩
    obtain rfl : e = .returned (.tuple #[.pointer none, .int .i64 9]) := by
      rcases hcase with ⟨_, h⟩ | ⟨h, _⟩ | ⟨h, _⟩
      · exact h
      · rw [hr] at h; cases h
      · rw [hr] at h; cases h
    have hs9 := below_trans (by repeat (first | exact HB.out | (refine Below.drew ?_) | (refine below_drewN' ?_ _) | (refine below_alloc' ?_ _) | (refine Below.setCell ?_ (by first | exact Nat.le_refl _ | (have := HB.out.size; simp; omega) | (have := HB.out.size; omega)) _))) hb9
    replace HB := Lib.hid hs9
    clear hs9 hb9 hcase HW1
    go_wp2_with fail
    refine (HER.out _ (by repeat (first | exact HB.out | (refine Below.drew ?_) | (refine below_drewN' ?_ _) | (refine below_alloc' ?_ _) | (refine Below.setCell ?_ (by first | exact Nat.le_refl _ | (have := HB.out.size; simp; omega) | (have := HB.out.size; omega)) _)))).mono ?_
    rintro e w9 ⟨rfl, hb9⟩
    have hs9 := below_trans (by repeat (first | exact HB.out | (refine Below.drew ?_) | (refine below_drewN' ?_ _) | (refine below_alloc' ?_ _) | (refine Below.setCell ?_ (by first | exact Nat.le_refl _ | (have := HB.out.size; simp; omega) | (have := HB.out.size; omega)) _))) hb9
    replace HB := Lib.hid hs9
    clear hs9
    clear hb9
    go_wp2_with fail
    refine (HUN.out _ (by repeat (first | exact HB.out | (refine Below.drew ?_) | (refine below_drewN' ?_ _) | (refine below_alloc' ?_ _) | (refine Below.setCell ?_ (by first | exact Nat.le_refl _ | (have := HB.out.size; simp; omega) | (have := HB.out.size; omega)) _)))).mono ?_
    rintro e w9 ⟨v1, rfl, hv1, hb9⟩
    have hs9 := below_trans (by repeat (first | exact HB.out | (refine Below.drew ?_) | (refine below_drewN' ?_ _) | (refine below_alloc' ?_ _) | (refine Below.setCell ?_ (by first | exact Nat.le_refl _ | (have := HB.out.size; simp; omega) | (have := HB.out.size; omega)) _))) hb9
    replace HB := Lib.hid hs9
    clear hs9
    obtain ⟨Aa, na, rfl, z4⟩ : ∃ A n, v1 = .slice A (undoL c).length n ∧ True := let ⟨A, n, h, _⟩ := hv1; ⟨A, n, h, trivial⟩
    have HV1 := Lib.hid hv1
    have HW2 := Lib.hid (Below.refl w9.heap.size w9)
    clear hv1 z4
    clear hb9
    go_wp2_with fail
    refine (HSW.out _ (by repeat (first | exact HB.out | (refine Below.drew ?_) | (refine below_drewN' ?_ _) | (refine below_alloc' ?_ _) | (refine Below.setCell ?_ (by first | exact Nat.le_refl _ | (have := HB.out.size; simp; omega) | (have := HB.out.size; omega)) _)))).mono ?_
    rintro e w9 ⟨v2, rfl, hv2, hb9⟩
    have hs9 := below_trans (by repeat (first | exact HB.out | (refine Below.drew ?_) | (refine below_drewN' ?_ _) | (refine below_alloc' ?_ _) | (refine Below.setCell ?_ (by first | exact Nat.le_refl _ | (have := HB.out.size; simp; omega) | (have := HB.out.size; omega)) _))) hb9
    replace HB := Lib.hid hs9
    clear hs9
    have hs9 := below_trans (by repeat (first | exact HW2.out | (refine Below.drew ?_) | (refine below_drewN' ?_ _) | (refine below_alloc' ?_ _) | (refine Below.setCell ?_ (by first | exact Nat.le_refl _ | (have := HW2.out.size; simp; omega) | (have := HW2.out.size; omega)) _))) hb9
    replace HW2 := Lib.hid hs9
    clear hs9
    obtain ⟨Ab, nb, rfl, z4⟩ : ∃ A n, v2 = .slice A (undoL c).length n ∧ True := let ⟨A, n, h, _⟩ := hv2; ⟨A, n, h, trivial⟩
    have HV2 := Lib.hid hv2
    clear hv2 z4
    clear hb9
    go_wp2_with fail
    refine (HSM.out _ _ _ (HV1.out.below (by repeat (first | exact HW2.out | (refine Below.drew ?_) | (refine below_drewN' ?_ _) | (refine below_alloc' ?_ _) | (refine Below.setCell ?_ (by first | exact Nat.le_refl _ | (have := HW2.out.size; simp; omega) | (have := HW2.out.size; omega)) _)))) (HV2.out.below (by repeat (first | exact Below.refl _ _ | (refine Below.drew ?_) | (refine below_drewN' ?_ _) | (refine below_alloc' ?_ _) | (refine Below.setCell ?_ (by first | exact Nat.le_refl _ | (simp; done) | (simp; omega)) _))))).mono ?_
    rintro e w9 ⟨rfl, hb9⟩
    have hs9 := below_trans (by repeat (first | exact HB.out | (refine Below.drew ?_) | (refine below_drewN' ?_ _) | (refine below_alloc' ?_ _) | (refine Below.setCell ?_ (by first | exact Nat.le_refl _ | (have := HB.out.size; simp; omega) | (have := HB.out.size; omega)) _))) hb9
    replace HB := Lib.hid hs9
    clear hs9
    clear hb9
    go_wp2_with fail
    go_ret
    exact ⟨rfl, HB.out⟩
  | true =>
    rw [hr] at HRR HER HEF
    refine (HRR.out _ (by repeat (first | exact HB.out | (refine Below.drew ?_) | (refine below_drewN' ?_ _) | (refine below_alloc' ?_ _) | (refine Below.setCell ?_ (by first | exact Nat.le_refl _ | (have := HB.out.size; simp; omega) | (have := HB.out.size; omega)) _)))).mono ?_
    rintro e w9 ⟨rfl, hb9⟩
    have hs9 := below_trans (by repeat (first | exact HB.out | (refine Below.drew ?_) | (refine below_drewN' ?_ _) | (refine below_alloc' ?_ _) | (refine Below.setCell ?_ (by first | exact Nat.le_refl _ | (have := HB.out.size; simp; omega) | (have := HB.out.size; omega)) _))) hb9
    replace HB := Lib.hid hs9
    clear hs9
    have hs9 := below_trans (by repeat (first | exact HW1.out | (refine Below.drew ?_) | (refine below_drewN' ?_ _) | (refine below_alloc' ?_ _) | (refine Below.setCell ?_ (by first | exact Nat.le_refl _ | (have := HW1.out.size; simp; omega) | (have := HW1.out.size; omega)) _))) hb9
    replace HW1 := Lib.hid hs9
    clear hs9
    clear hb9
    go_wp2_with fail
    cases hf : fitsL in_ c with
    | false =>
      rw [hf] at HEF
      refine (HEF.out t _ (by repeat (first | exact HB.out | (refine Below.drew ?_) | (refine below_drewN' ?_ _) | (refine below_alloc' ?_ _) | (refine Below.setCell ?_ (by first | exact Nat.le_refl _ | (have := HB.out.size; simp; omega) | (have := HB.out.size; omega)) _))) (HT.out.1.bel (by repeat (first | exact HW1.out | (refine Below.drew ?_) | (refine below_drewN' ?_ _) | (refine below_alloc' ?_ _) | (refine Below.setCell ?_ (by first | exact Nat.le_refl _ | (have := HW1.out.size; simp; omega) | (have := HW1.out.size; omega)) _))))).mono ?_
      rintro e w9 ⟨rfl, hb9⟩
      have hs9 := below_trans (by repeat (first | exact HB.out | (refine Below.drew ?_) | (refine below_drewN' ?_ _) | (refine below_alloc' ?_ _) | (refine Below.setCell ?_ (by first | exact Nat.le_refl _ | (have := HB.out.size; simp; omega) | (have := HB.out.size; omega)) _))) hb9
      replace HB := Lib.hid hs9
      clear hs9
      have hs9 := below_trans (by repeat (first | exact HW1.out | (refine Below.drew ?_) | (refine below_drewN' ?_ _) | (refine below_alloc' ?_ _) | (refine Below.setCell ?_ (by first | exact Nat.le_refl _ | (have := HW1.out.size; simp; omega) | (have := HW1.out.size; omega)) _))) hb9
      replace HW1 := Lib.hid hs9
      clear hs9
      clear hb9
      go_wp2_with fail
      refine (HED.out t _ (by repeat (first | exact HB.out | (refine Below.drew ?_) | (refine below_drewN' ?_ _) | (refine below_alloc' ?_ _) | (refine Below.setCell ?_ (by first | exact Nat.le_refl _ | (have := HB.out.size; simp; omega) | (have := HB.out.size; omega)) _))) (HT.out.1.bel (by repeat (first | exact HW1.out | (refine Below.drew ?_) | (refine below_drewN' ?_ _) | (refine below_alloc' ?_ _) | (refine Below.setCell ?_ (by first | exact Nat.le_refl _ | (have := HW1.out.size; simp; omega) | (have := HW1.out.size; omega)) _))))).mono ?_
      rintro e w9 ⟨hb9, hcase⟩
      obtain rfl : e = .returned (.tuple #[.pointer none, .int .i64 7]) := by
        rcases hcase with ⟨h, _⟩ | ⟨_, _, h⟩ | ⟨_, h, _⟩
        · rw [hr] at h; cases h
        · exact h
        · rw [hf] at h; cases h
      have hs9 := below_trans (by repeat (first | exact HB.out | (refine Below.drew ?_) | (refine below_drewN' ?_ _) | (refine below_alloc' ?_ _) | (refine Below.setCell ?_ (by first | exact Nat.le_refl _ | (have := HB.out.size; simp; omega) | (have := HB.out.size; omega)) _))) hb9
      replace HB := Lib.hid hs9
      clear hs9
      have hs9 := below_trans (by repeat (first | exact HW1.out | (refine Below.drew ?_) | (refine below_drewN' ?_ _) | (refine below_alloc' ?_ _) | (refine Below.setCell ?_ (by first | exact Nat.le_refl _ | (have := HW1.out.size; simp; omega) | (have := HW1.out.size; omega)) _))) hb9
      replace HW1 := Lib.hid hs9
      clear hs9 hb9 hcase
      go_wp2_with fail
      refine (HER.out _ (by repeat (first | exact HB.out | (refine Below.drew ?_) | (refine below_drewN' ?_ _) | (refine below_alloc' ?_ _) | (refine Below.setCell ?_ (by first | exact Nat.le_refl _ | (have := HB.out.size; simp; omega) | (have := HB.out.size; omega)) _)))).mono ?_
      rintro e w9 ⟨rfl, hb9⟩
      have hs9 := below_trans (by repeat (first | exact HB.out | (refine Below.drew ?_) | (refine below_drewN' ?_ _) | (refine below_alloc' ?_ _) | (refine Below.setCell ?_ (by first | exact Nat.le_refl _ | (have := HB.out.size; simp; omega) | (have := HB.out.size; omega)) _))) hb9
      replace HB := Lib.hid hs9
      clear hs9
      have hs9 := below_trans (by repeat (first | exact HW1.out | (refine Below.drew ?_) | (refine below_drewN' ?_ _) | (refine below_alloc' ?_ _) | (refine Below.setCell ?_ (by first | exact Nat.le_refl _ | (have := HW1.out.size; simp; omega) | (have := HW1.out.size; omega)) _))) hb9
      replace HW1 := Lib.hid hs9
      clear hs9
      clear hb9
      go_wp2_with fail
      refine (HUN.out _ (by repeat (first | exact HB.out | (refine Below.drew ?_) | (refine below_drewN' ?_ _) | (refine below_alloc' ?_ _) | (refine Below.setCell ?_ (by first | exact Nat.le_refl _ | (have := HB.out.size; simp; omega) | (have := HB.out.size; omega)) _)))).mono ?_
      rintro e w9 ⟨v1, rfl, hv1, hb9⟩
      have hs9 := below_trans (by repeat (first | exact HB.out | (refine Below.drew ?_) | (refine below_drewN' ?_ _) | (refine below_alloc' ?_ _) | (refine Below.setCell ?_ (by first | exact Nat.le_refl _ | (have := HB.out.size; simp; omega) | (have := HB.out.size; omega)) _))) hb9
      replace HB := Lib.hid hs9
      clear hs9
      have hs9 := below_trans (by repeat (first | exact HW1.out | (refine Below.drew ?_) | (refine below_drewN' ?_ _) | (refine below_alloc' ?_ _) | (refine Below.setCell ?_ (by first | exact Nat.le_refl _ | (have := HW1.out.size; simp; omega) | (have := HW1.out.size; omega)) _))) hb9
      replace HW1 := Lib.hid hs9
      clear hs9
      obtain ⟨Aa, na, rfl, z4⟩ : ∃ A n, v1 = .slice A (undoL c).length n ∧ True := let ⟨A, n, h, _⟩ := hv1; ⟨A, n, h, trivial⟩
      have HV1 := Lib.hid hv1
      have HW2 := Lib.hid (Below.refl w9.heap.size w9)
      clear hv1 z4
      clear hb9
      go_wp2_with fail
      refine (HSW.out _ (by repeat (first | exact HB.out | (refine Below.drew ?_) | (refine below_drewN' ?_ _) | (refine below_alloc' ?_ _) | (refine Below.setCell ?_ (by first | exact Nat.le_refl _ | (have := HB.out.size; simp; omega) | (have := HB.out.size; omega)) _)))).mono ?_
      rintro e w9 ⟨v2, rfl, hv2, hb9⟩
      have hs9 := below_trans (by repeat (first | exact HB.out | (refine Below.drew ?_) | (refine below_drewN' ?_ _) | (refine below_alloc' ?_ _) | (refine Below.setCell ?_ (by first | exact Nat.le_refl _ | (have := HB.out.size; simp; omega) | (have := HB.out.size; omega)) _))) hb9
      replace HB := Lib.hid hs9
      clear hs9
      have hs9 := below_trans (by repeat (first | exact HW1.out | (refine Below.drew ?_) | (refine below_drewN' ?_ _) | (refine below_alloc' ?_ _) | (refine Below.setCell ?_ (by first | exact Nat.le_refl _ | (have := HW1.out.size; simp; omega) | (have := HW1.out.size; omega)) _))) hb9
      replace HW1 := Lib.hid hs9
      clear hs9
      have hs9 := below_trans (by repeat (first | exact HW2.out | (refine Below.drew ?_) | (refine below_drewN' ?_ _) | (refine below_alloc' ?_ _) | (refine Below.setCell ?_ (by first | exact Nat.le_refl _ | (have := HW2.out.size; simp; omega) | (have := HW2.out.size; omega)) _))) hb9
      replace HW2 := Lib.hid hs9
      clear hs9
      obtain ⟨Ab, nb, rfl, z4⟩ : ∃ A n, v2 = .slice A (undoL c).length n ∧ True := let ⟨A, n, h, _⟩ := hv2; ⟨A, n, h, trivial⟩
      have HV2 := Lib.hid hv2
      clear hv2 z4
      clear hb9
      go_wp2_with fail
      refine (HSM.out _ _ _ (HV1.out.below (by repeat (first | exact HW2.out | (refine Below.drew ?_) | (refine below_drewN' ?_ _) | (refine below_alloc' ?_ _) | (refine Below.setCell ?_ (by first | exact Nat.le_refl _ | (have := HW2.out.size; simp; omega) | (have := HW2.out.size; omega)) _)))) (HV2.out.below (by repeat (first | exact Below.refl _ _ | (refine Below.drew ?_) | (refine below_drewN' ?_ _) | (refine below_alloc' ?_ _) | (refine Below.setCell ?_ (by first | exact Nat.le_refl _ | (simp; done) | (simp; omega)) _))))).mono ?_
      rintro e w9 ⟨rfl, hb9⟩
      have hs9 := below_trans (by repeat (first | exact HB.out | (refine Below.drew ?_) | (refine below_drewN' ?_ _) | (refine below_alloc' ?_ _) | (refine Below.setCell ?_ (by first | exact Nat.le_refl _ | (have := HB.out.size; simp; omega) | (have := HB.out.size; omega)) _))) hb9
      replace HB := Lib.hid hs9
      clear hs9
      have hs9 := below_trans (by repeat (first | exact HW1.out | (refine Below.drew ?_) | (refine below_drewN' ?_ _) | (refine below_alloc' ?_ _) | (refine Below.setCell ?_ (by first | exact Nat.le_refl _ | (have := HW1.out.size; simp; omega) | (have := HW1.out.size; omega)) _))) hb9
      replace HW1 := Lib.hid hs9
      clear hs9
      clear hb9
      go_wp2_with fail
      refine (HRF.out hr _ _ (by repeat (first | exact HB.out | (refine Below.drew ?_) | (refine below_drewN' ?_ _) | (refine below_alloc' ?_ _) | (refine Below.setCell ?_ (by first | exact Nat.le_refl _ | (have := HB.out.size; simp; omega) | (have := HB.out.size; omega)) _))) (HT.out.2.below (by repeat (first | exact HW1.out | (refine Below.drew ?_) | (refine below_drewN' ?_ _) | (refine below_alloc' ?_ _) | (refine Below.setCell ?_ (by first | exact Nat.le_refl _ | (have := HW1.out.size; simp; omega) | (have := HW1.out.size; omega)) _))))).mono ?_
      rintro e w9 ⟨rfl, hb9⟩
      have hs9 := below_trans (by repeat (first | exact HB.out | (refine Below.drew ?_) | (refine below_drewN' ?_ _) | (refine below_alloc' ?_ _) | (refine Below.setCell ?_ (by first | exact Nat.le_refl _ | (have := HB.out.size; simp; omega) | (have := HB.out.size; omega)) _))) hb9
      replace HB := Lib.hid hs9
      clear hs9
      clear hb9
      rw [hf]
      go_wp2_with fail
      go_ret
      exact ⟨rfl, HB.out⟩
    | true =>
      rw [hf] at HEF
      refine (HEF.out t _ (by repeat (first | exact HB.out | (refine Below.drew ?_) | (refine below_drewN' ?_ _) | (refine below_alloc' ?_ _) | (refine Below.setCell ?_ (by first | exact Nat.le_refl _ | (have := HB.out.size; simp; omega) | (have := HB.out.size; omega)) _))) (HT.out.1.bel (by repeat (first | exact HW1.out | (refine Below.drew ?_) | (refine below_drewN' ?_ _) | (refine below_alloc' ?_ _) | (refine Below.setCell ?_ (by first | exact Nat.le_refl _ | (have := HW1.out.size; simp; omega) | (have := HW1.out.size; omega)) _))))).mono ?_
      rintro e w9 ⟨rfl, hb9⟩
      have hs9 := below_trans (by repeat (first | exact HB.out | (refine Below.drew ?_) | (refine below_drewN' ?_ _) | (refine below_alloc' ?_ _) | (refine Below.setCell ?_ (by first | exact Nat.le_refl _ | (have := HB.out.size; simp; omega) | (have := HB.out.size; omega)) _))) hb9
      replace HB := Lib.hid hs9
      clear hs9
      have hs9 := below_trans (by repeat (first | exact HW1.out | (refine Below.drew ?_) | (refine below_drewN' ?_ _) | (refine below_alloc' ?_ _) | (refine Below.setCell ?_ (by first | exact Nat.le_refl _ | (have := HW1.out.size; simp; omega) | (have := HW1.out.size; omega)) _))) hb9
      replace HW1 := Lib.hid hs9
      clear hs9
      clear hb9
      go_wp2_with fail
      refine (HED.out t _ (by repeat (first | exact HB.out | (refine Below.drew ?_) | (refine below_drewN' ?_ _) | (refine below_alloc' ?_ _) | (refine Below.setCell ?_ (by first | exact Nat.le_refl _ | (have := HB.out.size; simp; omega) | (have := HB.out.size; omega)) _))) (HT.out.1.bel (by repeat (first | exact HW1.out | (refine Below.drew ?_) | (refine below_drewN' ?_ _) | (refine below_alloc' ?_ _) | (refine Below.setCell ?_ (by first | exact Nat.le_refl _ | (have := HW1.out.size; simp; omega) | (have := HW1.out.size; omega)) _))))).mono ?_
      rintro e wd ⟨hb9, hcase⟩
      obtain ⟨g, rfl, hg, hg1, hg2⟩ : ∃ g, e = .returned (.tuple #[.pointer (some ⟨g, 0, none⟩), .int .i64 0]) ∧ TrR wd g n (doL in_ c) ∧ (c = [] → g = t) ∧ (c ≠ [] → w1.heap.size ≤ g) := by
        rcases hcase with ⟨h, _⟩ | ⟨_, h, _⟩ | ⟨_, _, g, h1, h2, h3, h4⟩
        · rw [hr] at h; cases h
        · rw [hf] at h; cases h
        · exact ⟨g, h1, h2, h3, fun h => Nat.le_trans (Below.size (by repeat (first | exact HW1.out | (refine Below.drew ?_) | (refine below_drewN' ?_ _) | (refine below_alloc' ?_ _) | (refine Below.setCell ?_ (by first | exact Nat.le_refl _ | (have := HW1.out.size; simp; omega) | (have := HW1.out.size; omega)) _)))) (h4 h)⟩
      have hs9 := below_trans (by repeat (first | exact HB.out | (refine Below.drew ?_) | (refine below_drewN' ?_ _) | (refine below_alloc' ?_ _) | (refine Below.setCell ?_ (by first | exact Nat.le_refl _ | (have := HB.out.size; simp; omega) | (have := HB.out.size; omega)) _))) hb9
      replace HB := Lib.hid hs9
      clear hs9
      have hs9 := below_trans (by repeat (first | exact HW1.out | (refine Below.drew ?_) | (refine below_drewN' ?_ _) | (refine below_alloc' ?_ _) | (refine Below.setCell ?_ (by first | exact Nat.le_refl _ | (have := HW1.out.size; simp; omega) | (have := HW1.out.size; omega)) _))) hb9
      replace HW1 := Lib.hid hs9
      have HWD := Lib.hid (Below.refl wd.heap.size wd)
      have HG := Lib.hid (And.intro hg (And.intro hg1 hg2))
      clear hs9 hb9 hcase hg hg1 hg2
      go_wp2_with fail
      refine (HER.out _ (by repeat (first | exact HB.out | (refine Below.drew ?_) | (refine below_drewN' ?_ _) | (refine below_alloc' ?_ _) | (refine Below.setCell ?_ (by first | exact Nat.le_refl _ | (have := HB.out.size; simp; omega) | (have := HB.out.size; omega)) _)))).mono ?_
      rintro e w9 ⟨rfl, hb9⟩
      have hs9 := below_trans (by repeat (first | exact HB.out | (refine Below.drew ?_) | (refine below_drewN' ?_ _) | (refine below_alloc' ?_ _) | (refine Below.setCell ?_ (by first | exact Nat.le_refl _ | (have := HB.out.size; simp; omega) | (have := HB.out.size; omega)) _))) hb9
      replace HB := Lib.hid hs9
      clear hs9
      have hs9 := below_trans (by repeat (first | exact HW1.out | (refine Below.drew ?_) | (refine below_drewN' ?_ _) | (refine below_alloc' ?_ _) | (refine Below.setCell ?_ (by first | exact Nat.le_refl _ | (have := HW1.out.size; simp; omega) | (have := HW1.out.size; omega)) _))) hb9
      replace HW1 := Lib.hid hs9
      clear hs9
      have hs9 := below_trans (by repeat (first | exact HWD.out | (refine Below.drew ?_) | (refine below_drewN' ?_ _) | (refine below_alloc' ?_ _) | (refine Below.setCell ?_ (by first | exact Nat.le_refl _ | (have := HWD.out.size; simp; omega) | (have := HWD.out.size; omega)) _))) hb9
      replace HWD := Lib.hid hs9
      clear hs9
      clear hb9
      go_wp2_with fail
      refine (HUN.out _ (by repeat (first | exact HB.out | (refine Below.drew ?_) | (refine below_drewN' ?_ _) | (refine below_alloc' ?_ _) | (refine Below.setCell ?_ (by first | exact Nat.le_refl _ | (have := HB.out.size; simp; omega) | (have := HB.out.size; omega)) _)))).mono ?_
      rintro e w9 ⟨v1, rfl, hv1, hb9⟩
      have hs9 := below_trans (by repeat (first | exact HB.out | (refine Below.drew ?_) | (refine below_drewN' ?_ _) | (refine below_alloc' ?_ _) | (refine Below.setCell ?_ (by first | exact Nat.le_refl _ | (have := HB.out.size; simp; omega) | (have := HB.out.size; omega)) _))) hb9
      replace HB := Lib.hid hs9
      clear hs9
      have hs9 := below_trans (by repeat (first | exact HW1.out | (refine Below.drew ?_) | (refine below_drewN' ?_ _) | (refine below_alloc' ?_ _) | (refine Below.setCell ?_ (by first | exact Nat.le_refl _ | (have := HW1.out.size; simp; omega) | (have := HW1.out.size; omega)) _))) hb9
      replace HW1 := Lib.hid hs9
      clear hs9
      have hs9 := below_trans (by repeat (first | exact HWD.out | (refine Below.drew ?_) | (refine below_drewN' ?_ _) | (refine below_alloc' ?_ _) | (refine Below.setCell ?_ (by first | exact Nat.le_refl _ | (have := HWD.out.size; simp; omega) | (have := HWD.out.size; omega)) _))) hb9
      replace HWD := Lib.hid hs9
      clear hs9
      obtain ⟨Aa, na, rfl, z4⟩ : ∃ A n, v1 = .slice A (undoL c).length n ∧ True := let ⟨A, n, h, _⟩ := hv1; ⟨A, n, h, trivial⟩
      have HV1 := Lib.hid hv1
      have HW2 := Lib.hid (Below.refl w9.heap.size w9)
      clear hv1 z4
      clear hb9
      go_wp2_with fail
      refine (HSW.out _ (by repeat (first | exact HB.out | (refine Below.drew ?_) | (refine below_drewN' ?_ _) | (refine below_alloc' ?_ _) | (refine Below.setCell ?_ (by first | exact Nat.le_refl _ | (have := HB.out.size; simp; omega) | (have := HB.out.size; omega)) _)))).mono ?_
      rintro e w9 ⟨v2, rfl, hv2, hb9⟩
      have hs9 := below_trans (by repeat (first | exact HB.out | (refine Below.drew ?_) | (refine below_drewN' ?_ _) | (refine below_alloc' ?_ _) | (refine Below.setCell ?_ (by first | exact Nat.le_refl _ | (have := HB.out.size; simp; omega) | (have := HB.out.size; omega)) _))) hb9
      replace HB := Lib.hid hs9
      clear hs9
      have hs9 := below_trans (by repeat (first | exact HW1.out | (refine Below.drew ?_) | (refine below_drewN' ?_ _) | (refine below_alloc' ?_ _) | (refine Below.setCell ?_ (by first | exact Nat.le_refl _ | (have := HW1.out.size; simp; omega) | (have := HW1.out.size; omega)) _))) hb9
      replace HW1 := Lib.hid hs9
      clear hs9
      have hs9 := below_trans (by repeat (first | exact HW2.out | (refine Below.drew ?_) | (refine below_drewN' ?_ _) | (refine below_alloc' ?_ _) | (refine Below.setCell ?_ (by first | exact Nat.le_refl _ | (have := HW2.out.size; simp; omega) | (have := HW2.out.size; omega)) _))) hb9
      replace HW2 := Lib.hid hs9
      clear hs9
      have hs9 := below_trans (by repeat (first | exact HWD.out | (refine Below.drew ?_) | (refine below_drewN' ?_ _) | (refine below_alloc' ?_ _) | (refine Below.setCell ?_ (by first | exact Nat.le_refl _ | (have := HWD.out.size; simp; omega) | (have := HWD.out.size; omega)) _))) hb9
      replace HWD := Lib.hid hs9
      clear hs9
      obtain ⟨Ab, nb, rfl, z4⟩ : ∃ A n, v2 = .slice A (undoL c).length n ∧ True := let ⟨A, n, h, _⟩ := hv2; ⟨A, n, h, trivial⟩
      have HV2 := Lib.hid hv2
      clear hv2 z4
      clear hb9
      go_wp2_with fail
      refine (HSM.out _ _ _ (HV1.out.below (by repeat (first | exact HW2.out | (refine Below.drew ?_) | (refine below_drewN' ?_ _) | (refine below_alloc' ?_ _) | (refine Below.setCell ?_ (by first | exact Nat.le_refl _ | (have := HW2.out.size; simp; omega) | (have := HW2.out.size; omega)) _)))) (HV2.out.below (by repeat (first | exact Below.refl _ _ | (refine Below.drew ?_) | (refine below_drewN' ?_ _) | (refine below_alloc' ?_ _) | (refine Below.setCell ?_ (by first | exact Nat.le_refl _ | (simp; done) | (simp; omega)) _))))).mono ?_
      rintro e w9 ⟨rfl, hb9⟩
      have hs9 := below_trans (by repeat (first | exact HB.out | (refine Below.drew ?_) | (refine below_drewN' ?_ _) | (refine below_alloc' ?_ _) | (refine Below.setCell ?_ (by first | exact Nat.le_refl _ | (have := HB.out.size; simp; omega) | (have := HB.out.size; omega)) _))) hb9
      replace HB := Lib.hid hs9
      clear hs9
      have hs9 := below_trans (by repeat (first | exact HW1.out | (refine Below.drew ?_) | (refine below_drewN' ?_ _) | (refine below_alloc' ?_ _) | (refine Below.setCell ?_ (by first | exact Nat.le_refl _ | (have := HW1.out.size; simp; omega) | (have := HW1.out.size; omega)) _))) hb9
      replace HW1 := Lib.hid hs9
      clear hs9
      have hs9 := below_trans (by repeat (first | exact HWD.out | (refine Below.drew ?_) | (refine below_drewN' ?_ _) | (refine below_alloc' ?_ _) | (refine Below.setCell ?_ (by first | exact Nat.le_refl _ | (have := HWD.out.size; simp; omega) | (have := HWD.out.size; omega)) _))) hb9
      replace HWD := Lib.hid hs9
      clear hs9
      clear hb9
      go_wp2_with fail
      refine (HRF.out hr _ _ (by repeat (first | exact HB.out | (refine Below.drew ?_) | (refine below_drewN' ?_ _) | (refine below_alloc' ?_ _) | (refine Below.setCell ?_ (by first | exact Nat.le_refl _ | (have := HB.out.size; simp; omega) | (have := HB.out.size; omega)) _))) (HT.out.2.below (by repeat (first | exact HW1.out | (refine Below.drew ?_) | (refine below_drewN' ?_ _) | (refine below_alloc' ?_ _) | (refine Below.setCell ?_ (by first | exact Nat.le_refl _ | (have := HW1.out.size; simp; omega) | (have := HW1.out.size; omega)) _))))).mono ?_
      rintro e w9 ⟨rfl, hb9⟩
      have hs9 := below_trans (by repeat (first | exact HB.out | (refine Below.drew ?_) | (refine below_drewN' ?_ _) | (refine below_alloc' ?_ _) | (refine Below.setCell ?_ (by first | exact Nat.le_refl _ | (have := HB.out.size; simp; omega) | (have := HB.out.size; omega)) _))) hb9
      replace HB := Lib.hid hs9
      clear hs9
      have hs9 := below_trans (by repeat (first | exact HW1.out | (refine Below.drew ?_) | (refine below_drewN' ?_ _) | (refine below_alloc' ?_ _) | (refine Below.setCell ?_ (by first | exact Nat.le_refl _ | (have := HW1.out.size; simp; omega) | (have := HW1.out.size; omega)) _))) hb9
      replace HW1 := Lib.hid hs9
      clear hs9
      have hs9 := below_trans (by repeat (first | exact HWD.out | (refine Below.drew ?_) | (refine below_drewN' ?_ _) | (refine below_alloc' ?_ _) | (refine Below.setCell ?_ (by first | exact Nat.le_refl _ | (have := HWD.out.size; simp; omega) | (have := HWD.out.size; omega)) _))) hb9
      replace HWD := Lib.hid hs9
      clear hs9
      clear hb9
      rw [hf]
      by_cases hc0 : c = []
      · obtain rfl := HG.out.2.1 hc0
        have hl0 : c.length = 0 := HCN.out.1 hc0
        have heq := fun w => tree_same w g
        clear hc0
        rw [hl0] at HRD HUN ⊢

        go_wp2_with fail
        refine (HRD.out hr _ _ (by repeat (first | exact HB.out | (refine Below.drew ?_) | (refine below_drewN' ?_ _) | (refine below_alloc' ?_ _) | (refine Below.setCell ?_ (by first | exact Nat.le_refl _ | (have := HB.out.size; simp; omega) | (have := HB.out.size; omega)) _))) (HT.out.2.below (by repeat (first | exact HW1.out | (refine Below.drew ?_) | (refine below_drewN' ?_ _) | (refine below_alloc' ?_ _) | (refine Below.setCell ?_ (by first | exact Nat.le_refl _ | (have := HW1.out.size; simp; omega) | (have := HW1.out.size; omega)) _))))).mono ?_
        rintro e w9 ⟨vd, rfl, hvd, hb9⟩
        have hs9 := below_trans (by repeat (first | exact HB.out | (refine Below.drew ?_) | (refine below_drewN' ?_ _) | (refine below_alloc' ?_ _) | (refine Below.setCell ?_ (by first | exact Nat.le_refl _ | (have := HB.out.size; simp; omega) | (have := HB.out.size; omega)) _))) hb9
        replace HB := Lib.hid hs9
        clear hs9
        have hs9 := below_trans (by repeat (first | exact HW1.out | (refine Below.drew ?_) | (refine below_drewN' ?_ _) | (refine below_alloc' ?_ _) | (refine Below.setCell ?_ (by first | exact Nat.le_refl _ | (have := HW1.out.size; simp; omega) | (have := HW1.out.size; omega)) _))) hb9
        replace HW1 := Lib.hid hs9
        clear hs9
        have hs9 := below_trans (by repeat (first | exact HWD.out | (refine Below.drew ?_) | (refine below_drewN' ?_ _) | (refine below_alloc' ?_ _) | (refine Below.setCell ?_ (by first | exact Nat.le_refl _ | (have := HWD.out.size; simp; omega) | (have := HWD.out.size; omega)) _))) hb9
        replace HWD := Lib.hid hs9
        clear hs9
        obtain ⟨Ad, nd, rfl, z4⟩ : ∃ A n, vd = .slice A (doL in_ c).length n ∧ True := let ⟨A, n, h, _⟩ := hvd; ⟨A, n, h, trivial⟩
        have HVD := Lib.hid hvd
        clear hvd z4
        clear hb9
        go_wp2_with fail
        refine (HIS.out g _ _ _ (HG.out.1.bel (by repeat (first | exact HWD.out | (refine Below.drew ?_) | (refine below_drewN' ?_ _) | (refine below_alloc' ?_ _) | (refine Below.setCell ?_ (by first | exact Nat.le_refl _ | (have := HWD.out.size; simp; omega) | (have := HWD.out.size; omega)) _)))) (HVD.out.below (by repeat (first | exact Below.refl _ _ | (refine Below.drew ?_) | (refine below_drewN' ?_ _) | (refine below_alloc' ?_ _) | (refine Below.setCell ?_ (by first | exact Nat.le_refl _ | (simp; done) | (simp; omega)) _)))) (HE2.out hr)).mono ?_
        rintro e w9 ⟨rfl, hb9⟩
        have hs9 := below_trans (by repeat (first | exact HB.out | (refine Below.drew ?_) | (refine below_drewN' ?_ _) | (refine below_alloc' ?_ _) | (refine Below.setCell ?_ (by first | exact Nat.le_refl _ | (have := HB.out.size; simp; omega) | (have := HB.out.size; omega)) _))) hb9
        replace HB := Lib.hid hs9
        clear hs9
        have hs9 := below_trans (by repeat (first | exact HW1.out | (refine Below.drew ?_) | (refine below_drewN' ?_ _) | (refine below_alloc' ?_ _) | (refine Below.setCell ?_ (by first | exact Nat.le_refl _ | (have := HW1.out.size; simp; omega) | (have := HW1.out.size; omega)) _))) hb9
        replace HW1 := Lib.hid hs9
        clear hs9
        have hs9 := below_trans (by repeat (first | exact HWD.out | (refine Below.drew ?_) | (refine below_drewN' ?_ _) | (refine below_alloc' ?_ _) | (refine Below.setCell ?_ (by first | exact Nat.le_refl _ | (have := HWD.out.size; simp; omega) | (have := HWD.out.size; omega)) _))) hb9
        replace HWD := Lib.hid hs9
        clear hs9
        clear hb9
        go_wp2_with fail
        refine (HIS.out g _ _ _ (HT.out.1.bel (by repeat (first | exact HW1.out | (refine Below.drew ?_) | (refine below_drewN' ?_ _) | (refine below_alloc' ?_ _) | (refine Below.setCell ?_ (by first | exact Nat.le_refl _ | (have := HW1.out.size; simp; omega) | (have := HW1.out.size; omega)) _)))) (HT.out.2.below (by repeat (first | exact HW1.out | (refine Below.drew ?_) | (refine below_drewN' ?_ _) | (refine below_alloc' ?_ _) | (refine Below.setCell ?_ (by first | exact Nat.le_refl _ | (have := HW1.out.size; simp; omega) | (have := HW1.out.size; omega)) _)))) HIN.out.1).mono ?_
        rintro e w9 ⟨rfl, hb9⟩
        have hs9 := below_trans (by repeat (first | exact HB.out | (refine Below.drew ?_) | (refine below_drewN' ?_ _) | (refine below_alloc' ?_ _) | (refine Below.setCell ?_ (by first | exact Nat.le_refl _ | (have := HB.out.size; simp; omega) | (have := HB.out.size; omega)) _))) hb9
        replace HB := Lib.hid hs9
        clear hs9
        have hs9 := below_trans (by repeat (first | exact HW1.out | (refine Below.drew ?_) | (refine below_drewN' ?_ _) | (refine below_alloc' ?_ _) | (refine Below.setCell ?_ (by first | exact Nat.le_refl _ | (have := HW1.out.size; simp; omega) | (have := HW1.out.size; omega)) _))) hb9
        replace HW1 := Lib.hid hs9
        clear hs9
        have hs9 := below_trans (by repeat (first | exact HWD.out | (refine Below.drew ?_) | (refine below_drewN' ?_ _) | (refine below_alloc' ?_ _) | (refine Below.setCell ?_ (by first | exact Nat.le_refl _ | (have := HWD.out.size; simp; omega) | (have := HWD.out.size; omega)) _))) hb9
        replace HWD := Lib.hid hs9
        clear hs9
        clear hb9
        go_wp2_with fail
        refine (HUN.out _ (by repeat (first | exact HB.out | (refine Below.drew ?_) | (refine below_drewN' ?_ _) | (refine below_alloc' ?_ _) | (refine Below.setCell ?_ (by first | exact Nat.le_refl _ | (have := HB.out.size; simp; omega) | (have := HB.out.size; omega)) _)))).mono ?_
        rintro e w9 ⟨v3, rfl, hv3, hb9⟩
        have hs9 := below_trans (by repeat (first | exact HB.out | (refine Below.drew ?_) | (refine below_drewN' ?_ _) | (refine below_alloc' ?_ _) | (refine Below.setCell ?_ (by first | exact Nat.le_refl _ | (have := HB.out.size; simp; omega) | (have := HB.out.size; omega)) _))) hb9
        replace HB := Lib.hid hs9
        clear hs9
        have hs9 := below_trans (by repeat (first | exact HW1.out | (refine Below.drew ?_) | (refine below_drewN' ?_ _) | (refine below_alloc' ?_ _) | (refine Below.setCell ?_ (by first | exact Nat.le_refl _ | (have := HW1.out.size; simp; omega) | (have := HW1.out.size; omega)) _))) hb9
        replace HW1 := Lib.hid hs9
        clear hs9
        have hs9 := below_trans (by repeat (first | exact HWD.out | (refine Below.drew ?_) | (refine below_drewN' ?_ _) | (refine below_alloc' ?_ _) | (refine Below.setCell ?_ (by first | exact Nat.le_refl _ | (have := HWD.out.size; simp; omega) | (have := HWD.out.size; omega)) _))) hb9
        replace HWD := Lib.hid hs9
        clear hs9
        obtain ⟨Ac, nc, rfl, z4⟩ : ∃ A n, v3 = .slice A (undoL c).length n ∧ True := let ⟨A, n, h, _⟩ := hv3; ⟨A, n, h, trivial⟩
        have HV3 := Lib.hid hv3
        clear hv3 z4
        clear hb9
        go_wp2_with fail
        refine (HD2.out g _ _ (HG.out.1.bel (by repeat (first | exact HWD.out | (refine Below.drew ?_) | (refine below_drewN' ?_ _) | (refine below_alloc' ?_ _) | (refine Below.setCell ?_ (by first | exact Nat.le_refl _ | (have := HWD.out.size; simp; omega) | (have := HWD.out.size; omega)) _)))) (HV3.out.below (by repeat (first | exact Below.refl _ _ | (refine Below.drew ?_) | (refine below_drewN' ?_ _) | (refine below_alloc' ?_ _) | (refine Below.setCell ?_ (by first | exact Nat.le_refl _ | (simp; done) | (simp; omega)) _))))).mono ?_
        rintro e we ⟨hb9, hcase⟩
        obtain ⟨u1, u2, u3⟩ := HUR.out hr hf
        obtain ⟨g2, rfl, hg2⟩ : ∃ g2, e = .returned (.tuple #[.pointer (some ⟨g2, 0, none⟩), .int .i64 0]) ∧ TrR we g2 n in_ := by
          rcases hcase with ⟨h, _⟩ | ⟨_, h, _⟩ | ⟨_, _, g2, h1, h2, _⟩
          · rw [u1] at h; cases h
          · rw [u2] at h; cases h
          · rw [u3] at h2; exact ⟨g2, h1, h2⟩
        have hs9 := below_trans (by repeat (first | exact HB.out | (refine Below.drew ?_) | (refine below_drewN' ?_ _) | (refine below_alloc' ?_ _) | (refine Below.setCell ?_ (by first | exact Nat.le_refl _ | (have := HB.out.size; simp; omega) | (have := HB.out.size; omega)) _))) hb9
        replace HB := Lib.hid hs9
        clear hs9
        have hs9 := below_trans (by repeat (first | exact HW1.out | (refine Below.drew ?_) | (refine below_drewN' ?_ _) | (refine below_alloc' ?_ _) | (refine Below.setCell ?_ (by first | exact Nat.le_refl _ | (have := HW1.out.size; simp; omega) | (have := HW1.out.size; omega)) _))) hb9
        replace HW1 := Lib.hid hs9
        clear hs9
        have hs9 := below_trans (by repeat (first | exact HWD.out | (refine Below.drew ?_) | (refine below_drewN' ?_ _) | (refine below_alloc' ?_ _) | (refine Below.setCell ?_ (by first | exact Nat.le_refl _ | (have := HWD.out.size; simp; omega) | (have := HWD.out.size; omega)) _))) hb9
        replace HWD := Lib.hid hs9
        clear hs9
        have HG2 := Lib.hid hg2
        clear hb9 hcase hg2 u1 u2 u3
        go_wp2_with fail
        refine (HIS.out g2 _ _ _ (HG2.out.bel (by repeat (first | exact Below.refl _ _ | (refine Below.drew ?_) | (refine below_drewN' ?_ _) | (refine below_alloc' ?_ _) | (refine Below.setCell ?_ (by first | exact Nat.le_refl _ | (simp; done) | (simp; omega)) _)))) (HT.out.2.below (by repeat (first | exact HW1.out | (refine Below.drew ?_) | (refine below_drewN' ?_ _) | (refine below_alloc' ?_ _) | (refine Below.setCell ?_ (by first | exact Nat.le_refl _ | (have := HW1.out.size; simp; omega) | (have := HW1.out.size; omega)) _)))) HIN.out.1).mono ?_
        rintro e w9 ⟨rfl, hb9⟩
        have hs9 := below_trans (by repeat (first | exact HB.out | (refine Below.drew ?_) | (refine below_drewN' ?_ _) | (refine below_alloc' ?_ _) | (refine Below.setCell ?_ (by first | exact Nat.le_refl _ | (have := HB.out.size; simp; omega) | (have := HB.out.size; omega)) _))) hb9
        replace HB := Lib.hid hs9
        clear hs9
        have hs9 := below_trans (by repeat (first | exact HW1.out | (refine Below.drew ?_) | (refine below_drewN' ?_ _) | (refine below_alloc' ?_ _) | (refine Below.setCell ?_ (by first | exact Nat.le_refl _ | (have := HW1.out.size; simp; omega) | (have := HW1.out.size; omega)) _))) hb9
        replace HW1 := Lib.hid hs9
        clear hs9
        have hs9 := below_trans (by repeat (first | exact HWD.out | (refine Below.drew ?_) | (refine below_drewN' ?_ _) | (refine below_alloc' ?_ _) | (refine Below.setCell ?_ (by first | exact Nat.le_refl _ | (have := HWD.out.size; simp; omega) | (have := HWD.out.size; omega)) _))) hb9
        replace HWD := Lib.hid hs9
        clear hs9
        clear hb9
        go_wp2_with fail
        go_ret
        exact ⟨rfl, HB.out⟩
      · have hlt : 0 < c.length := HCN.out.2 hc0
        have hne : g ≠ t := by
          have h1 := HG.out.2.2 hc0
          obtain ⟨_, h2⟩ := HT.out.1.blk
          have := kr_lt h2
          omega
        have heq := tree_other (w := w9) (HG.out.1.bel HWD.out) (HT.out.1.bel HW1.out) hne
        have hcl : ((c.length : Int) == 0) = false := by rw [beq_eq_false_iff_ne]; omega
        clear hc0 hne hlt

        go_wp2_with fail
        refine (HRD.out hr _ _ (by repeat (first | exact HB.out | (refine Below.drew ?_) | (refine below_drewN' ?_ _) | (refine below_alloc' ?_ _) | (refine Below.setCell ?_ (by first | exact Nat.le_refl _ | (have := HB.out.size; simp; omega) | (have := HB.out.size; omega)) _))) (HT.out.2.below (by repeat (first | exact HW1.out | (refine Below.drew ?_) | (refine below_drewN' ?_ _) | (refine below_alloc' ?_ _) | (refine Below.setCell ?_ (by first | exact Nat.le_refl _ | (have := HW1.out.size; simp; omega) | (have := HW1.out.size; omega)) _))))).mono ?_
        rintro e w9 ⟨vd, rfl, hvd, hb9⟩
        have hs9 := below_trans (by repeat (first | exact HB.out | (refine Below.drew ?_) | (refine below_drewN' ?_ _) | (refine below_alloc' ?_ _) | (refine Below.setCell ?_ (by first | exact Nat.le_refl _ | (have := HB.out.size; simp; omega) | (have := HB.out.size; omega)) _))) hb9
        replace HB := Lib.hid hs9
        clear hs9
        have hs9 := below_trans (by repeat (first | exact HW1.out | (refine Below.drew ?_) | (refine below_drewN' ?_ _) | (refine below_alloc' ?_ _) | (refine Below.setCell ?_ (by first | exact Nat.le_refl _ | (have := HW1.out.size; simp; omega) | (have := HW1.out.size; omega)) _))) hb9
        replace HW1 := Lib.hid hs9
        clear hs9
        have hs9 := below_trans (by repeat (first | exact HWD.out | (refine Below.drew ?_) | (refine below_drewN' ?_ _) | (refine below_alloc' ?_ _) | (refine Below.setCell ?_ (by first | exact Nat.le_refl _ | (have := HWD.out.size; simp; omega) | (have := HWD.out.size; omega)) _))) hb9
        replace HWD := Lib.hid hs9
        clear hs9
        obtain ⟨Ad, nd, rfl, z4⟩ : ∃ A n, vd = .slice A (doL in_ c).length n ∧ True := let ⟨A, n, h, _⟩ := hvd; ⟨A, n, h, trivial⟩
        have HVD := Lib.hid hvd
        clear hvd z4
        clear hb9
        go_wp2_with fail
        refine (HIS.out g _ _ _ (HG.out.1.bel (by repeat (first | exact HWD.out | (refine Below.drew ?_) | (refine below_drewN' ?_ _) | (refine below_alloc' ?_ _) | (refine Below.setCell ?_ (by first | exact Nat.le_refl _ | (have := HWD.out.size; simp; omega) | (have := HWD.out.size; omega)) _)))) (HVD.out.below (by repeat (first | exact Below.refl _ _ | (refine Below.drew ?_) | (refine below_drewN' ?_ _) | (refine below_alloc' ?_ _) | (refine Below.setCell ?_ (by first | exact Nat.le_refl _ | (simp; done) | (simp; omega)) _)))) (HE2.out hr)).mono ?_
        rintro e w9 ⟨rfl, hb9⟩
        have hs9 := below_trans (by repeat (first | exact HB.out | (refine Below.drew ?_) | (refine below_drewN' ?_ _) | (refine below_alloc' ?_ _) | (refine Below.setCell ?_ (by first | exact Nat.le_refl _ | (have := HB.out.size; simp; omega) | (have := HB.out.size; omega)) _))) hb9
        replace HB := Lib.hid hs9
        clear hs9
        have hs9 := below_trans (by repeat (first | exact HW1.out | (refine Below.drew ?_) | (refine below_drewN' ?_ _) | (refine below_alloc' ?_ _) | (refine Below.setCell ?_ (by first | exact Nat.le_refl _ | (have := HW1.out.size; simp; omega) | (have := HW1.out.size; omega)) _))) hb9
        replace HW1 := Lib.hid hs9
        clear hs9
        have hs9 := below_trans (by repeat (first | exact HWD.out | (refine Below.drew ?_) | (refine below_drewN' ?_ _) | (refine below_alloc' ?_ _) | (refine Below.setCell ?_ (by first | exact Nat.le_refl _ | (have := HWD.out.size; simp; omega) | (have := HWD.out.size; omega)) _))) hb9
        replace HWD := Lib.hid hs9
        clear hs9
        clear hb9
        go_wp2_with fail
        refine (HIS.out t _ _ _ (HT.out.1.bel (by repeat (first | exact HW1.out | (refine Below.drew ?_) | (refine below_drewN' ?_ _) | (refine below_alloc' ?_ _) | (refine Below.setCell ?_ (by first | exact Nat.le_refl _ | (have := HW1.out.size; simp; omega) | (have := HW1.out.size; omega)) _)))) (HT.out.2.below (by repeat (first | exact HW1.out | (refine Below.drew ?_) | (refine below_drewN' ?_ _) | (refine below_alloc' ?_ _) | (refine Below.setCell ?_ (by first | exact Nat.le_refl _ | (have := HW1.out.size; simp; omega) | (have := HW1.out.size; omega)) _)))) HIN.out.1).mono ?_
        rintro e w9 ⟨rfl, hb9⟩
        have hs9 := below_trans (by repeat (first | exact HB.out | (refine Below.drew ?_) | (refine below_drewN' ?_ _) | (refine below_alloc' ?_ _) | (refine Below.setCell ?_ (by first | exact Nat.le_refl _ | (have := HB.out.size; simp; omega) | (have := HB.out.size; omega)) _))) hb9
        replace HB := Lib.hid hs9
        clear hs9
        have hs9 := below_trans (by repeat (first | exact HW1.out | (refine Below.drew ?_) | (refine below_drewN' ?_ _) | (refine below_alloc' ?_ _) | (refine Below.setCell ?_ (by first | exact Nat.le_refl _ | (have := HW1.out.size; simp; omega) | (have := HW1.out.size; omega)) _))) hb9
        replace HW1 := Lib.hid hs9
        clear hs9
        have hs9 := below_trans (by repeat (first | exact HWD.out | (refine Below.drew ?_) | (refine below_drewN' ?_ _) | (refine below_alloc' ?_ _) | (refine Below.setCell ?_ (by first | exact Nat.le_refl _ | (have := HWD.out.size; simp; omega) | (have := HWD.out.size; omega)) _))) hb9
        replace HWD := Lib.hid hs9
        clear hs9
        clear hb9
        go_wp2_with fail
        refine (HUN.out _ (by repeat (first | exact HB.out | (refine Below.drew ?_) | (refine below_drewN' ?_ _) | (refine below_alloc' ?_ _) | (refine Below.setCell ?_ (by first | exact Nat.le_refl _ | (have := HB.out.size; simp; omega) | (have := HB.out.size; omega)) _)))).mono ?_
        rintro e w9 ⟨v3, rfl, hv3, hb9⟩
        have hs9 := below_trans (by repeat (first | exact HB.out | (refine Below.drew ?_) | (refine below_drewN' ?_ _) | (refine below_alloc' ?_ _) | (refine Below.setCell ?_ (by first | exact Nat.le_refl _ | (have := HB.out.size; simp; omega) | (have := HB.out.size; omega)) _))) hb9
        replace HB := Lib.hid hs9
        clear hs9
        have hs9 := below_trans (by repeat (first | exact HW1.out | (refine Below.drew ?_) | (refine below_drewN' ?_ _) | (refine below_alloc' ?_ _) | (refine Below.setCell ?_ (by first | exact Nat.le_refl _ | (have := HW1.out.size; simp; omega) | (have := HW1.out.size; omega)) _))) hb9
        replace HW1 := Lib.hid hs9
        clear hs9
        have hs9 := below_trans (by repeat (first | exact HWD.out | (refine Below.drew ?_) | (refine below_drewN' ?_ _) | (refine below_alloc' ?_ _) | (refine Below.setCell ?_ (by first | exact Nat.le_refl _ | (have := HWD.out.size; simp; omega) | (have := HWD.out.size; omega)) _))) hb9
        replace HWD := Lib.hid hs9
        clear hs9
        obtain ⟨Ac, nc, rfl, z4⟩ : ∃ A n, v3 = .slice A (undoL c).length n ∧ True := let ⟨A, n, h, _⟩ := hv3; ⟨A, n, h, trivial⟩
        have HV3 := Lib.hid hv3
        clear hv3 z4
        clear hb9
        go_wp2_with fail
        refine (HD2.out g _ _ (HG.out.1.bel (by repeat (first | exact HWD.out | (refine Below.drew ?_) | (refine below_drewN' ?_ _) | (refine below_alloc' ?_ _) | (refine Below.setCell ?_ (by first | exact Nat.le_refl _ | (have := HWD.out.size; simp; omega) | (have := HWD.out.size; omega)) _)))) (HV3.out.below (by repeat (first | exact Below.refl _ _ | (refine Below.drew ?_) | (refine below_drewN' ?_ _) | (refine below_alloc' ?_ _) | (refine Below.setCell ?_ (by first | exact Nat.le_refl _ | (simp; done) | (simp; omega)) _))))).mono ?_
        rintro e we ⟨hb9, hcase⟩
        obtain ⟨u1, u2, u3⟩ := HUR.out hr hf
        obtain ⟨g2, rfl, hg2⟩ : ∃ g2, e = .returned (.tuple #[.pointer (some ⟨g2, 0, none⟩), .int .i64 0]) ∧ TrR we g2 n in_ := by
          rcases hcase with ⟨h, _⟩ | ⟨_, h, _⟩ | ⟨_, _, g2, h1, h2, _⟩
          · rw [u1] at h; cases h
          · rw [u2] at h; cases h
          · rw [u3] at h2; exact ⟨g2, h1, h2⟩
        have hs9 := below_trans (by repeat (first | exact HB.out | (refine Below.drew ?_) | (refine below_drewN' ?_ _) | (refine below_alloc' ?_ _) | (refine Below.setCell ?_ (by first | exact Nat.le_refl _ | (have := HB.out.size; simp; omega) | (have := HB.out.size; omega)) _))) hb9
        replace HB := Lib.hid hs9
        clear hs9
        have hs9 := below_trans (by repeat (first | exact HW1.out | (refine Below.drew ?_) | (refine below_drewN' ?_ _) | (refine below_alloc' ?_ _) | (refine Below.setCell ?_ (by first | exact Nat.le_refl _ | (have := HW1.out.size; simp; omega) | (have := HW1.out.size; omega)) _))) hb9
        replace HW1 := Lib.hid hs9
        clear hs9
        have hs9 := below_trans (by repeat (first | exact HWD.out | (refine Below.drew ?_) | (refine below_drewN' ?_ _) | (refine below_alloc' ?_ _) | (refine Below.setCell ?_ (by first | exact Nat.le_refl _ | (have := HWD.out.size; simp; omega) | (have := HWD.out.size; omega)) _))) hb9
        replace HWD := Lib.hid hs9
        clear hs9
        have HG2 := Lib.hid hg2
        clear hb9 hcase hg2 u1 u2 u3
        go_wp2_with fail
        refine (HIS.out g2 _ _ _ (HG2.out.bel (by repeat (first | exact Below.refl _ _ | (refine Below.drew ?_) | (refine below_drewN' ?_ _) | (refine below_alloc' ?_ _) | (refine Below.setCell ?_ (by first | exact Nat.le_refl _ | (simp; done) | (simp; omega)) _)))) (HT.out.2.below (by repeat (first | exact HW1.out | (refine Below.drew ?_) | (refine below_drewN' ?_ _) | (refine below_alloc' ?_ _) | (refine Below.setCell ?_ (by first | exact Nat.le_refl _ | (have := HW1.out.size; simp; omega) | (have := HW1.out.size; omega)) _)))) HIN.out.1).mono ?_
        rintro e w9 ⟨rfl, hb9⟩
        have hs9 := below_trans (by repeat (first | exact HB.out | (refine Below.drew ?_) | (refine below_drewN' ?_ _) | (refine below_alloc' ?_ _) | (refine Below.setCell ?_ (by first | exact Nat.le_refl _ | (have := HB.out.size; simp; omega) | (have := HB.out.size; omega)) _))) hb9
        replace HB := Lib.hid hs9
        clear hs9
        have hs9 := below_trans (by repeat (first | exact HW1.out | (refine Below.drew ?_) | (refine below_drewN' ?_ _) | (refine below_alloc' ?_ _) | (refine Below.setCell ?_ (by first | exact Nat.le_refl _ | (have := HW1.out.size; simp; omega) | (have := HW1.out.size; omega)) _))) hb9
        replace HW1 := Lib.hid hs9
        clear hs9
        have hs9 := below_trans (by repeat (first | exact HWD.out | (refine Below.drew ?_) | (refine below_drewN' ?_ _) | (refine below_alloc' ?_ _) | (refine Below.setCell ?_ (by first | exact Nat.le_refl _ | (have := HWD.out.size; simp; omega) | (have := HWD.out.size; omega)) _))) hb9
        replace HWD := Lib.hid hs9
        clear hs9
        clear hb9
        go_wp2_with fail
        go_ret
        exact ⟨rfl, HB.out⟩
set_option maxHeartbeats 4000000 in
theorem editDoes_any (w : World) (k : Int) (l : List Ac) (c : List Ch) (vl vc : Value) (hl : RdA w vl l) (hc : RdC w vc c) (hlo : ∀ a ∈ l, a.OkV) (hco : OkC c ∧ OkV c) (hll : l.length ≤ maxLen) :
    Calls Tryz.prog 3 #[.int .i64 k, vl, vc] w fun e w' => e = .returned (.bool true) ∧ Below w.heap.size w w' := by
  by_cases hmain : heavyL l 30 = false ∧ ¬ k < 1 ∧ ¬ k > 16 ∧ heavyB c 30 = false
  · obtain ⟨h1, h2, h3, h4⟩ := hmain
    obtain ⟨n, rfl⟩ : ∃ n : Nat, k = n := ⟨k.toNat, by omega⟩
    exact does_main w n l c vl vc (by omega) (by omega) hl hc hlo hco hll h1 h4
  have HAW := Lib.hid (fun w' => awake_any w')
  have HB := Lib.hid (Below.refl w.heap.size w)
  have HHE := Lib.hid (fun w' (hb : Below w.heap.size w w') => heavyA_any w' l vl 30 (hl.below hb) hll)
  have HHC := Lib.hid (fun w' (hb : Below w.heap.size w w') => Heavy_any c 30 vc w' (hc.below hb) (by omega))
  obtain ⟨A1, q1, rfl, z1⟩ := hl
  obtain ⟨A2, q2, rfl, z2⟩ := hc
  clear z1 z2 hlo hco hll
  cases hh : heavyL l 30 with
  | true =>
    rw [show heavyL l 30 = true from hh] at HHE
    clear hmain

    go_enter Tryz.func3, Tryz.ntmps3
    go_wp2_with fail
    refine (HAW.out _).mono ?_
    rintro e w9 ⟨rfl, hb9⟩
    have hs9 := below_trans (by repeat (first | exact HB.out | (refine Below.drew ?_) | (refine below_drewN' ?_ _) | (refine below_alloc' ?_ _) | (refine Below.setCell ?_ (by first | exact Nat.le_refl _ | (have := HB.out.size; simp; omega) | (have := HB.out.size; omega)) _))) hb9
    replace HB := Lib.hid hs9
    clear hs9 hb9
    go_wp2_with fail
    refine (HHE.out _ (by repeat (first | exact HB.out | (refine Below.drew ?_) | (refine below_drewN' ?_ _) | (refine below_alloc' ?_ _) | (refine Below.setCell ?_ (by first | exact Nat.le_refl _ | (have := HB.out.size; simp; omega) | (have := HB.out.size; omega)) _)))).mono ?_
    rintro e w9 ⟨rfl, hw9⟩
    obtain rfl := hw9.symm
    clear hw9
    go_wp2_with fail
    go_ret
    exact ⟨rfl, HB.out⟩
  | false =>
    rw [show heavyL l 30 = false from hh] at HHE
    by_cases hk : k < 1
    · clear hmain

      go_enter Tryz.func3, Tryz.ntmps3
      go_wp2_with fail
      refine (HAW.out _).mono ?_
      rintro e w9 ⟨rfl, hb9⟩
      have hs9 := below_trans (by repeat (first | exact HB.out | (refine Below.drew ?_) | (refine below_drewN' ?_ _) | (refine below_alloc' ?_ _) | (refine Below.setCell ?_ (by first | exact Nat.le_refl _ | (have := HB.out.size; simp; omega) | (have := HB.out.size; omega)) _))) hb9
      replace HB := Lib.hid hs9
      clear hs9 hb9
      go_wp2_with fail
      refine (HHE.out _ (by repeat (first | exact HB.out | (refine Below.drew ?_) | (refine below_drewN' ?_ _) | (refine below_alloc' ?_ _) | (refine Below.setCell ?_ (by first | exact Nat.le_refl _ | (have := HB.out.size; simp; omega) | (have := HB.out.size; omega)) _)))).mono ?_
      rintro e w9 ⟨rfl, hw9⟩
      obtain rfl := hw9.symm
      clear hw9
      go_wp2_with fail
      go_ret
      exact ⟨rfl, HB.out⟩
    · by_cases hk2 : k > 16
      · clear hmain

        go_enter Tryz.func3, Tryz.ntmps3
        go_wp2_with fail
        refine (HAW.out _).mono ?_
        rintro e w9 ⟨rfl, hb9⟩
        have hs9 := below_trans (by repeat (first | exact HB.out | (refine Below.drew ?_) | (refine below_drewN' ?_ _) | (refine below_alloc' ?_ _) | (refine Below.setCell ?_ (by first | exact Nat.le_refl _ | (have := HB.out.size; simp; omega) | (have := HB.out.size; omega)) _))) hb9
        replace HB := Lib.hid hs9
        clear hs9 hb9
        go_wp2_with fail
        refine (HHE.out _ (by repeat (first | exact HB.out | (refine Below.drew ?_) | (refine below_drewN' ?_ _) | (refine below_alloc' ?_ _) | (refine Below.setCell ?_ (by first | exact Nat.le_refl _ | (have := HB.out.size; simp; omega) | (have := HB.out.size; omega)) _)))).mono ?_
        rintro e w9 ⟨rfl, hw9⟩
        obtain rfl := hw9.symm
        clear hw9
        go_wp2_with fail
        go_ret
        exact ⟨rfl, HB.out⟩
      · have hh2 : heavyB c 30 = true := by
          cases h : heavyB c 30 with
          | true => rfl
          | false => exact absurd ⟨hh, hk, hk2, h⟩ hmain
        rw [hh2] at HHC
        clear hmain

        go_enter Tryz.func3, Tryz.ntmps3
        go_wp2_with fail
        refine (HAW.out _).mono ?_
        rintro e w9 ⟨rfl, hb9⟩
        have hs9 := below_trans (by repeat (first | exact HB.out | (refine Below.drew ?_) | (refine below_drewN' ?_ _) | (refine below_alloc' ?_ _) | (refine Below.setCell ?_ (by first | exact Nat.le_refl _ | (have := HB.out.size; simp; omega) | (have := HB.out.size; omega)) _))) hb9
        replace HB := Lib.hid hs9
        clear hs9 hb9
        go_wp2_with fail
        refine (HHE.out _ (by repeat (first | exact HB.out | (refine Below.drew ?_) | (refine below_drewN' ?_ _) | (refine below_alloc' ?_ _) | (refine Below.setCell ?_ (by first | exact Nat.le_refl _ | (have := HB.out.size; simp; omega) | (have := HB.out.size; omega)) _)))).mono ?_
        rintro e w9 ⟨rfl, hw9⟩
        obtain rfl := hw9.symm
        clear hw9
        go_wp2_with fail
        refine (HHC.out _ (by repeat (first | exact HB.out | (refine Below.drew ?_) | (refine below_drewN' ?_ _) | (refine below_alloc' ?_ _) | (refine Below.setCell ?_ (by first | exact Nat.le_refl _ | (have := HB.out.size; simp; omega) | (have := HB.out.size; omega)) _)))).mono ?_
        rintro e w9 ⟨rfl, hw9⟩
        obtain rfl := hw9.symm
        clear hw9
        go_wp2_with fail
        go_ret
        exact ⟨rfl, HB.out⟩
end Go.Proofs.YtjokcagggmjgmaaGreat
/-! OpenV -/
namespace Go.Proofs.YtjokcagggmjgmaaGreat
open Go.RowKit Go.ChangeShapes Go.WideShapes Go.Deep
set_option linter.unusedVariables false

theorem open_changesV {H : Type} {enc : TypeId × Value → H} {W : World} {base : Nat} {held : Bool} {v : Value} {x : DataW H × List MemPlace} {fuel : Nat}
    (h : DataW.trod enc Tryz.prog W base (fun _ => true) held fuel 23 [v] = some x) :
    ∃ l : List Ch, RdC W v l ∧ (OkC l ∧ OkV l) ∧ l.length ≤ maxLen ∧ ∃ A n c, v = .slice A n c ∧ n ≤ c ∧ c ≤ maxLen ∧ (0 < c → ∃ b o, A = some ⟨b, o, none⟩) := by
  have hu : ∃ fs, Tryz.prog.underlying 83 = some (.struct fs) ∧ fs.size = 5 ∧ (fs[0]?.map (·.type) = some 48) ∧ (fs[1]?.map (·.type) = some 4) ∧ (fs[2]?.map (·.type) = some 4) ∧ (fs[3]?.map (·.type) = some 49) ∧ (fs[4]?.map (·.type) = some 49) ∧ oneCellFields Tryz.prog fs = true ∧ Tryz.prog.cellsOf 83 = fs.size :=
    ⟨_, Tryz.underlying83, by kernel_rfl, by kernel_rfl, by kernel_rfl, by kernel_rfl, by kernel_rfl, by kernel_rfl, by kernel_rfl, by kernel_rfl⟩
  obtain ⟨fs, he, hs, t0, t1, t2, t3, t4, hone, hC⟩ := hu
  rcases open_slice_fields Tryz.underlying23 he hone hC h with h0 | ⟨a, len, cap, m, hcs, hl, hm, hmm, hf⟩
  · simp only [List.cons.injEq, and_true] at h0
    subst h0
    exact ⟨[], ⟨none, 0, rfl, fun h => absurd h (by simp)⟩, ⟨fun c hc => by simp at hc, fun c hc => by simp at hc⟩, by simp [maxLen], none, 0, 0, rfl, Nat.le_refl _, Nat.zero_le _, fun h => absurd h (by omega)⟩
  · simp only [List.cons.injEq, and_true] at hcs
    subst hcs
    have hlm : len ≤ m := by rw [hmm]; split <;> omega
    rw [hs] at hf
    have hmc : m = cap := by rw [hmm]; rfl
    have hab : 0 < cap → ∃ b o, a = ⟨b, o, none⟩ := by
      intro h0
      obtain ⟨f0, q0, r0⟩ := Option.map_eq_some_iff.1 t0
      obtain ⟨v0, y0, n0, c0, d0⟩ := hf 0 (by omega) 0 f0 q0
      exact spot_none (by simpa [Addr.add] using c0)
    have each : ∀ i, i < len → ∃ c : Ch, ((∀ x ∈ c.p, x < 2 ^ 64) ∧ c.old < 2 ^ 64 ∧ c.new < 2 ^ 64) ∧ ∃ b o, a = ⟨b, o, none⟩ ∧ ChAt W b (o + i * 5) c := by
      intro i hi
      have hfi := hf i (by omega)
      obtain ⟨f0, q0, r0⟩ := Option.map_eq_some_iff.1 t0
      obtain ⟨f1, q1, r1⟩ := Option.map_eq_some_iff.1 t1
      obtain ⟨f2, q2, r2⟩ := Option.map_eq_some_iff.1 t2
      obtain ⟨f3, q3, r3⟩ := Option.map_eq_some_iff.1 t3
      obtain ⟨f4, q4, r4⟩ := Option.map_eq_some_iff.1 t4
      obtain ⟨v0, y0, n0, c0, d0⟩ := hfi 0 f0 q0
      obtain ⟨v1, y1, n1, c1, d1⟩ := hfi 1 f1 q1
      obtain ⟨v2, y2, n2, c2, d2⟩ := hfi 2 f2 q2
      obtain ⟨v3, y3, n3, c3, d3⟩ := hfi 3 f3 q3
      obtain ⟨v4, y4, n4, c4, d4⟩ := hfi 4 f4 q4
      rw [r0] at d0; rw [r1] at d1; rw [r2] at d2; rw [r3] at d3; rw [r4] at d4
      obtain ⟨b, o, ha⟩ := hab (by omega)
      subst ha
      rw [add_plain] at c0 c1 c2 c3 c4
      obtain ⟨b1, e1, _⟩ := DataW.trod_bool Tryz.underlying4 d1
      obtain ⟨b2, e2, _⟩ := DataW.trod_bool Tryz.underlying4 d2
      obtain ⟨i3, e3, _, w3⟩ := DataW.trod_int Tryz.underlying49 d3
      obtain ⟨i4, e4, _, w4⟩ := DataW.trod_int Tryz.underlying49 d4
      simp only [List.cons.injEq, and_true] at e1 e2 e3 e4
      subst e1 e2 e3 e4
      have g3 := bounds_u64 w3
      have g4 := bounds_u64 w4
      have hp : ∃ xs : List Int, (∀ x ∈ xs, 0 ≤ x ∧ x ≤ 18446744073709551615) ∧ RdU W v0 xs := by
        rcases open_ints Tryz.underlying48 Tryz.underlying49 (by kernel_rfl) d0 with ⟨hcs, _⟩ | ⟨x, l, c, zs, hcs, _, hl, hm, hz, _, hcell, hwz⟩
        · simp only [List.cons.injEq, and_true] at hcs
          subst hcs
          exact ⟨[], fun x hx => by simp at hx, RdU.nil _ _ _⟩
        · simp only [List.cons.injEq, and_true] at hcs
          subst hcs
          obtain ⟨xs, _, _, h3, h4⟩ := RdU.of_row (w := W) (a := some x) (len := l) (cap := c) (zs := zs) (.inr ⟨_, rfl, hl, hm, by simpa using hz, hcell, hwz⟩)
          exact ⟨xs, h3, h4⟩
      obtain ⟨xs, h5, h6⟩ := hp
      refine ⟨⟨xs.map Int.toNat, b1, b2, i3.toNat, i4.toNat⟩, ⟨fun y hy => ?_, by show i3.toNat < 2 ^ 64; omega, by show i4.toNat < 2 ^ 64; omega⟩, b, o, rfl, v0, by simpa [Nat.add_assoc] using c0, by rw [pti_toNat h5]; exact h6, ?_, ?_, ?_, ?_⟩
      · simp only [List.mem_map] at hy
        obtain ⟨z, hz, rfl⟩ := hy
        have := h5 z hz
        omega
      · rw [Nat.add_assoc]; exact c1
      · rw [Nat.add_assoc]; exact c2
      · rw [Nat.add_assoc, show ((i3.toNat : Nat) : Int) = i3 by omega]; exact c3
      · rw [Nat.add_assoc, show ((i4.toNat : Nat) : Int) = i4 by omega]; exact c4
    obtain ⟨f, hF⟩ := choose_lt each
    refine ⟨(List.range len).map f, ⟨some a, cap, by simp, fun hp => ?_⟩, ?_, by simp; omega, some a, len, cap, rfl, hl, hm, fun h => ?_⟩
    · have hp' : 0 < len := by simpa using hp
      obtain ⟨_, b, o, ha, _⟩ := hF 0 hp'
      refine ⟨b, o, by rw [ha], fun j hj => ?_⟩
      obtain ⟨_, b', o', ha', hc⟩ := hF j (by simpa using hj)
      rw [ha] at ha'
      injection ha' with e1 e2
      subst e1 e2
      simpa using hc
    · constructor
      all_goals
        intro c hc
        simp only [List.mem_map, List.mem_range] at hc
        obtain ⟨i, hi, rfl⟩ := hc
        first | exact (hF i hi).1.1 | exact (hF i hi).1.2
    · obtain ⟨b, o, ha⟩ := hab h
      exact ⟨b, o, by rw [ha]⟩
end Go.Proofs.YtjokcagggmjgmaaGreat
