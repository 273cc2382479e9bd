/-
  The walk of the closure that edit.Then hands to pairs.
-/
import Derived.Test.YtlmgabhdeeehmaaOwnF
namespace Go.Proofs.Ytlmgabhdeeehmaa
open Go.RowKit
set_option linter.unusedVariables false
set_option linter.unusedSimpArgs false

/-- a pointer to a change, or nil -/
def PtrC (w : World) (v : Value) : Option Ch → Prop
  | none => v = .pointer none
  | some c => ∃ b o, v = .pointer (some ⟨b, o, none⟩) ∧ ChAt w b o c
/-- so much has been gathered in the captured variable -/
def InvT (W : World) (B : Nat) (o : List Ch) (w : World) : Prop :=
  ∃ vo, w.heap[B]? = some (.cells #[vo] 62 (0, 0)) ∧ OwnC (PtNew w) W w vo o ∧ Below W.heap.size W w
theorem OwnC.shape {Pt : Value → List Nat → Prop} {W w : World} {v : Value} {l : List Ch} (h : OwnC Pt W w v l) : ∃ A n c, v = .slice A n c := by
  obtain ⟨cs, ⟨h1, h2⟩, h3⟩ := h
  rcases h2 with ⟨rfl, _⟩ | ⟨g, cap, cur, rfl, _⟩
  · exact ⟨_, _, _, rfl⟩
  · exact ⟨_, _, _, rfl⟩
theorem InvT.push {W w3 w4 : World} {B : Nat} {vo v' : Value} {o o' : List Ch} (hB : W.heap.size ≤ B) (hblk : w3.heap[B]? = some (.cells #[vo] 62 (0, 0))) (hown : OwnC (PtNew w3) W w3 vo o) (hb : Below W.heap.size W w3)
    (hown' : OwnC (PtNew w3) W w4 v' o') (hg : w3.grownBy w4 vo.ownBlock) : w4.heap[B]? = some (.cells #[vo] 62 (0, 0)) ∧ InvT W B o' (w4.setCell ⟨B, 0, none⟩ v') := by
  have hneB : some B ≠ vo.ownBlock := by
    intro e
    obtain ⟨_, cur, hc⟩ := hown.block B e.symm
    rw [hblk] at hc
    injection hc with hc
    injection hc with _ hc _
    exact absurd hc (by decide)
  have h4 : w4.heap[B]? = some (.cells #[vo] 62 (0, 0)) := (hg.block B (lt_of_block hblk) hneB).trans hblk
  have hneB' : v'.ownBlock ≠ some B := by
    intro e
    obtain ⟨_, cur, hc⟩ := hown'.block B e
    rw [h4] at hc
    injection hc with hc
    injection hc with _ hc _
    exact absurd hc (by decide)
  refine ⟨h4, v', one_setCell h4, ?_, ?_⟩
  · obtain ⟨cs, ho, hc⟩ := hown'
    refine ⟨cs, ownsRow_setCell_other ho hneB' _, hc.mono fun u p hp => ?_⟩
    have hp4 : PtNew w4 u p := hp.keepBlock fun b cur fr hbk => by
      refine hg.block b (lt_of_block hbk) ?_
      intro e
      obtain ⟨_, cur', hc'⟩ := hown.block b e.symm
      rw [hbk] at hc'
      injection hc' with hc'
      injection hc' with _ hc' _
      exact absurd hc' (by decide)
    exact hp4.keepBlock fun b cur fr hbk => by
      refine Below.heap_setCell _ _ _ _ ?_
      intro e
      have e' : b = B := e
      rw [e', h4] at hbk
      injection hbk with hbk
      injection hbk with _ hbk _
      exact absurd hbk (by decide)
  · exact (hb.grown hg hb.size fun k hk => (hown.block k hk).1).setCell hB _

set_option maxRecDepth 8000 in
set_option maxHeartbeats 2000000 in
theorem tellX (W w : World) (B : Nat) (o : List Ch) (x : Ch) (px : Value) (hW : W.heap.size ≤ B) (hi : InvT W B o w) (hx : PtrC w px (some x)) (h1 : 1 ≤ x.p.length) (h40 : x.p.length ≤ 40) (hol : o.length ≤ 10000) :
    Calls Try.prog 81 #[px, .pointer none, .pointer (some ⟨B, 0, none⟩)] w fun e w' => e = .returned (.bool true) ∧ InvT W B (o ++ [x]) w' := by
  obtain ⟨bx, ox, rfl, vx, k0, hv, k1, k2, k3, k4⟩ := hx
  have HV := Lib.hid hv
  have HO := Lib.hid (show ∀ w', RdU w' vx (pti x.p) → Calls Try.prog 82 #[.agg #[vx, .bool x.had, .bool x.has, .int .u64 (x.old : Nat), .int .u64 (x.new : Nat)]] w' fun e w'' => OwnP w' x e w'' from fun w' h => own_any x vx w' h h1 h40)
  obtain ⟨Ax, cx, rfl, hx0⟩ := RdU.point hv
  obtain ⟨vo, hblk, hown, hbW⟩ := hi
  have kb := cell_of_one hblk
  have HI := Lib.hid (And.intro hblk (And.intro hown (And.intro hbW (And.intro hW hol))))
  have hlB : B < w.heap.size := lt_of_block hblk
  have hlx : bx < w.heap.size := World.block_lt_of_cell? w _ k0
  clear hblk hown hbW hv hx0 h1 h40 hW hol
  go_enter Try.func81, Try.ntmps81
  go_wp2_with fail
  refine wp_region_vals 6 [fun v _ => v = vo,
    fun v _ => v = .pointer (some ⟨bx, ox, none⟩),
    fun v _ => v = .pointer (some ⟨bx, ox, none⟩),
    fun v _ => v = .agg #[.slice Ax x.p.length cx, .bool x.had, .bool x.has, .int .u64 (x.old : Nat), .int .u64 (x.new : Nat)],
    fun v9 w9 => ∃ A9 n9 c9, v9 = .agg #[.slice A9 n9 c9, .bool x.had, .bool x.has, .int .u64 (x.old : Nat), .int .u64 (x.new : Nat)] ∧ PtNew w9 (.slice A9 n9 c9) x.p,
    fun v9 w9 => ∃ g A9 n9 c9, v9 = .slice (some ⟨g, 0, none⟩) 1 1 ∧ PtNew w9 (.slice A9 n9 c9) x.p ∧ w9.cell? ⟨g, 0, none⟩ = some (.slice A9 n9 c9) ∧ w9.cell? ⟨g, 1, none⟩ = some (.bool x.had) ∧ w9.cell? ⟨g, 2, none⟩ = some (.bool x.has) ∧ w9.cell? ⟨g, 3, none⟩ = some (.int .u64 (x.old : Nat)) ∧ w9.cell? ⟨g, 4, none⟩ = some (.int .u64 (x.new : Nat))]
    (by kernel_rfl) (by kernel_rfl) (by kernel_rfl) (by kernel_rfl) ?_ ?_ ?_
  · intro V hV v w1 w2 h hb
    simp only [List.mem_cons, List.not_mem_nil, or_false] at hV
    rcases hV with rfl | rfl | rfl | rfl | rfl | rfl
    all_goals first | exact h | (first | (obtain ⟨A9, n9, c9, h1, h2⟩ := h; exact ⟨A9, n9, c9, h1, h2.below hb⟩) | (obtain ⟨g, A9, n9, c9, h1, h2, h3, h4, h5, h6, h7⟩ := h; exact ⟨g, A9, n9, c9, h1, h2.below hb, Below.keeps hb _ _ h3, Below.keeps hb _ _ h4, Below.keeps hb _ _ h5, Below.keeps hb _ _ h6, Below.keeps hb _ _ h7⟩))
  · intro i o hi ho
    match i, hi with
    | 0, _ =>
    obtain rfl := Option.some.inj ho
    intro a1 w1 K hk hK
    have e2 : a1.tmps.getD 2 undef = .pointer (some ⟨B, 0, none⟩) := hk.same 2 (by simp)
    have c0 : w1.cell? ⟨B, 0, none⟩ = some (vo) := Below.keeps hk.ext _ _ (by simp [go_sem, kb, k0, k1, k2, k3, k4])
    have c1 : w1.cell? ⟨bx, ox, none⟩ = some (.slice Ax x.p.length cx) := Below.keeps hk.ext _ _ (by simp [go_sem, kb, k0, k1, k2, k3, k4])
    have c2 : w1.cell? ⟨bx, ox + 1, none⟩ = some (.bool x.had) := Below.keeps hk.ext _ _ (by simp [go_sem, kb, k0, k1, k2, k3, k4])
    have c3 : w1.cell? ⟨bx, ox + 2, none⟩ = some (.bool x.has) := Below.keeps hk.ext _ _ (by simp [go_sem, kb, k0, k1, k2, k3, k4])
    have c4 : w1.cell? ⟨bx, ox + 3, none⟩ = some (.int .u64 (x.old : Nat)) := Below.keeps hk.ext _ _ (by simp [go_sem, kb, k0, k1, k2, k3, k4])
    have c5 : w1.cell? ⟨bx, ox + 4, none⟩ = some (.int .u64 (x.new : Nat)) := Below.keeps hk.ext _ _ (by simp [go_sem, kb, k0, k1, k2, k3, k4])
    simp [Region.wanted, Oper.wp, Act.eval, go_sem, e2, c0, c1, c2, c3, c4, c5, kb, k0, k1, k2, k3, k4]
    exact hK _ _ (Below.refl _ _) rfl
    | 1, _ =>
    obtain rfl := Option.some.inj ho
    intro a1 w1 K hk hK
    have e0 : a1.tmps.getD 0 undef = .pointer (some ⟨bx, ox, none⟩) := hk.same 0 (by simp)
    simp [Region.wanted, Oper.wp, Act.eval, go_sem, e0, kb, k0, k1, k2, k3, k4]
    exact hK _ _ (Below.refl _ _) rfl
    | 2, _ =>
    obtain rfl := Option.some.inj ho
    intro a1 w1 K hk hK
    have d39 : a1.tmps.getD 39 undef = .pointer (some ⟨bx, ox, none⟩) := hk.deps ⟨1, .data⟩ (by simp) rfl _ _ rfl rfl
    simp [Region.wanted, Oper.wp, Act.eval, go_sem, d39, kb, k0, k1, k2, k3, k4]
    exact hK _ _ (Below.refl _ _) rfl
    | 3, _ =>
    obtain rfl := Option.some.inj ho
    intro a1 w1 K hk hK
    have d40 : a1.tmps.getD 40 undef = .pointer (some ⟨bx, ox, none⟩) := hk.deps ⟨2, .data⟩ (by simp) rfl _ _ rfl rfl
    have c0 : w1.cell? ⟨B, 0, none⟩ = some (vo) := Below.keeps hk.ext _ _ (by simp [go_sem, kb, k0, k1, k2, k3, k4])
    have c1 : w1.cell? ⟨bx, ox, none⟩ = some (.slice Ax x.p.length cx) := Below.keeps hk.ext _ _ (by simp [go_sem, kb, k0, k1, k2, k3, k4])
    have c2 : w1.cell? ⟨bx, ox + 1, none⟩ = some (.bool x.had) := Below.keeps hk.ext _ _ (by simp [go_sem, kb, k0, k1, k2, k3, k4])
    have c3 : w1.cell? ⟨bx, ox + 2, none⟩ = some (.bool x.has) := Below.keeps hk.ext _ _ (by simp [go_sem, kb, k0, k1, k2, k3, k4])
    have c4 : w1.cell? ⟨bx, ox + 3, none⟩ = some (.int .u64 (x.old : Nat)) := Below.keeps hk.ext _ _ (by simp [go_sem, kb, k0, k1, k2, k3, k4])
    have c5 : w1.cell? ⟨bx, ox + 4, none⟩ = some (.int .u64 (x.new : Nat)) := Below.keeps hk.ext _ _ (by simp [go_sem, kb, k0, k1, k2, k3, k4])
    simp [Region.wanted, Oper.wp, Act.eval, go_sem, d40, c0, c1, c2, c3, c4, c5, kb, k0, k1, k2, k3, k4]
    exact hK _ _ (Below.refl _ _) rfl
    | 4, _ =>
    obtain rfl := Option.some.inj ho
    intro a1 w1 K hk hK
    have d41 : a1.tmps.getD 41 undef = .agg #[.slice Ax x.p.length cx, .bool x.had, .bool x.has, .int .u64 (x.old : Nat), .int .u64 (x.new : Nat)] := hk.deps ⟨3, .data⟩ (by simp) rfl _ _ rfl rfl
    simp [Region.wanted, Oper.wp, Act.eval, go_sem, d41, kb, k0, k1, k2, k3, k4]
    refine (HO.out _ (HV.out.below (below_trans (by repeat (first | exact Below.refl _ _ | assumption | (refine Below.drew ?_) | (refine below_drewN' ?_ _) | (refine below_alloc' ?_ _))) hk.ext))).mono ?_
    rintro e w2 ⟨A9, n9, c9, rfl, hp9, hb9⟩
    exact hK _ _ hb9 ⟨A9, n9, c9, rfl, hp9⟩
    | 5, _ =>
    obtain rfl := Option.some.inj ho
    intro a1 w1 K hk hK
    have D42 : ∃ A9 n9 c9, (a1.tmps.getD 42 undef) = .agg #[.slice A9 n9 c9, .bool x.had, .bool x.has, .int .u64 (x.old : Nat), .int .u64 (x.new : Nat)] ∧ PtNew w1 (.slice A9 n9 c9) x.p := hk.deps ⟨4, .data⟩ (by simp) rfl _ _ rfl rfl
    obtain ⟨A9, n9, c9, D9, hpt⟩ := D42
    have D9x : a1.tmps[42]?.getD undef = .agg #[.slice A9 n9 c9, .bool x.had, .bool x.has, .int .u64 (x.old : Nat), .int .u64 (x.new : Nat)] := by rw [← D9]; simp
    simp [Region.wanted, Oper.wp, Act.eval, go_sem, D9, D9x]
    refine hK _ _ (by repeat (first | exact Below.refl _ _ | assumption | (refine Below.drew ?_) | (refine below_drewN' ?_ _) | (refine below_alloc' ?_ _))) ⟨_, A9, n9, c9, rfl, hpt.below (by repeat (first | exact Below.refl _ _ | assumption | (refine Below.drew ?_) | (refine below_drewN' ?_ _) | (refine below_alloc' ?_ _))), ?_, ?_, ?_, ?_, ?_⟩
    all_goals simp [go_sem]
  · intro vs w3 hl hb3 hv
    match vs, hl with
    | [v0, v1, v2, v3, v4, v5], _ =>
    obtain rfl : v0 = vo := hv 0 (by omega)
    obtain rfl : v1 = .pointer (some ⟨bx, ox, none⟩) := hv 1 (by omega)
    obtain rfl : v2 = .pointer (some ⟨bx, ox, none⟩) := hv 2 (by omega)
    obtain rfl : v3 = .agg #[.slice Ax x.p.length cx, .bool x.had, .bool x.has, .int .u64 (x.old : Nat), .int .u64 (x.new : Nat)] := hv 3 (by omega)
    have q4 : ∃ A9 n9 c9, v4 = .agg #[.slice A9 n9 c9, .bool x.had, .bool x.has, .int .u64 (x.old : Nat), .int .u64 (x.new : Nat)] ∧ PtNew w3 (.slice A9 n9 c9) x.p := hv 4 (by omega)
    have q5 : ∃ g A9 n9 c9, v5 = .slice (some ⟨g, 0, none⟩) 1 1 ∧ PtNew w3 (.slice A9 n9 c9) x.p ∧ w3.cell? ⟨g, 0, none⟩ = some (.slice A9 n9 c9) ∧ w3.cell? ⟨g, 1, none⟩ = some (.bool x.had) ∧ w3.cell? ⟨g, 2, none⟩ = some (.bool x.has) ∧ w3.cell? ⟨g, 3, none⟩ = some (.int .u64 (x.old : Nat)) ∧ w3.cell? ⟨g, 4, none⟩ = some (.int .u64 (x.new : Nat)) := hv 5 (by omega)
    clear hv
    obtain ⟨g, A9, n9, c9, rfl, hpt, g0, g1, g2, g3, g4⟩ := q5
    clear q4
    simp only [putAll, List.take_succ_cons, List.take_zero, List.drop_succ_cons, List.drop_zero, Act.put, List.setIfInBounds_toArray, List.set_cons_succ, List.set_cons_zero]
    have HX3 := Lib.hid hb3
    have HG := Lib.hid (show SrcC (PtNew w3) w3 (.slice (some ⟨g, 0, none⟩) 1 1) x from ⟨g, 1, _, rfl, g0, hpt, g1, g2, g3, g4⟩)
    clear hb3 g0 g1 g2 g3 g4 hpt k0 k1 k2 k3 k4 kb
    have HO3 := Lib.hid (show OwnC (PtNew w3) W w3 v0 o from (HI.out.2.1.below HX3.out).mono fun u p h => h.below HX3.out)
    have HB3 := Lib.hid (HI.out.2.2.1.trans (HX3.out.mono HI.out.2.2.1.size))
    have HBl := Lib.hid (show w3.heap[B]? = some (.cells #[v0] 62 (0, 0)) from (HX3.out.block B hlB).trans HI.out.1)
    refine wpList_append_C (Pt := PtNew w3) rfl (.tmp 38) (.tmp 43) rfl W o x (fun u p h => h.rd) HO3.out HG.out HB3.out.size (by have := HI.out.2.2.2.2; omega) ?_
    intro v6 w4 hown4 hg4
    obtain ⟨A6, n6, c6, rfl⟩ := hown4.shape
    obtain ⟨hb4, hI4⟩ := InvT.push HI.out.2.2.2.1 HBl.out HO3.out HB3.out hown4 hg4
    have c4 := cell_of_one hb4
    have f4 := free_of_one hb4
    have HI4 := Lib.hid hI4
    clear hown4 hg4 hb4 hI4
    go_wp2_with fail
    go_ret
    exact ⟨rfl, HI4.out⟩

set_option maxRecDepth 8000 in
set_option maxHeartbeats 2000000 in
theorem tellY (W w : World) (B : Nat) (o : List Ch) (x : Ch) (px : Value) (hW : W.heap.size ≤ B) (hi : InvT W B o w) (hx : PtrC w px (some x)) (h1 : 1 ≤ x.p.length) (h40 : x.p.length ≤ 40) (hol : o.length ≤ 10000) :
    Calls Try.prog 81 #[.pointer none, px, .pointer (some ⟨B, 0, none⟩)] w fun e w' => e = .returned (.bool true) ∧ InvT W B (o ++ [x]) w' := by
  obtain ⟨bx, ox, rfl, vx, k0, hv, k1, k2, k3, k4⟩ := hx
  have HV := Lib.hid hv
  have HO := Lib.hid (show ∀ w', RdU w' vx (pti x.p) → Calls Try.prog 82 #[.agg #[vx, .bool x.had, .bool x.has, .int .u64 (x.old : Nat), .int .u64 (x.new : Nat)]] w' fun e w'' => OwnP w' x e w'' from fun w' h => own_any x vx w' h h1 h40)
  obtain ⟨Ax, cx, rfl, hx0⟩ := RdU.point hv
  obtain ⟨vo, hblk, hown, hbW⟩ := hi
  have kb := cell_of_one hblk
  have HI := Lib.hid (And.intro hblk (And.intro hown (And.intro hbW (And.intro hW hol))))
  have hlB : B < w.heap.size := lt_of_block hblk
  have hlx : bx < w.heap.size := World.block_lt_of_cell? w _ k0
  clear hblk hown hbW hv hx0 h1 h40 hW hol
  go_enter Try.func81, Try.ntmps81
  go_wp2_with fail
  refine wp_region_vals 6 [fun v _ => v = vo,
    fun v _ => v = .pointer (some ⟨bx, ox, none⟩),
    fun v _ => v = .pointer (some ⟨bx, ox, none⟩),
    fun v _ => v = .agg #[.slice Ax x.p.length cx, .bool x.had, .bool x.has, .int .u64 (x.old : Nat), .int .u64 (x.new : Nat)],
    fun v9 w9 => ∃ A9 n9 c9, v9 = .agg #[.slice A9 n9 c9, .bool x.had, .bool x.has, .int .u64 (x.old : Nat), .int .u64 (x.new : Nat)] ∧ PtNew w9 (.slice A9 n9 c9) x.p,
    fun v9 w9 => ∃ g A9 n9 c9, v9 = .slice (some ⟨g, 0, none⟩) 1 1 ∧ PtNew w9 (.slice A9 n9 c9) x.p ∧ w9.cell? ⟨g, 0, none⟩ = some (.slice A9 n9 c9) ∧ w9.cell? ⟨g, 1, none⟩ = some (.bool x.had) ∧ w9.cell? ⟨g, 2, none⟩ = some (.bool x.has) ∧ w9.cell? ⟨g, 3, none⟩ = some (.int .u64 (x.old : Nat)) ∧ w9.cell? ⟨g, 4, none⟩ = some (.int .u64 (x.new : Nat))]
    (by kernel_rfl) (by kernel_rfl) (by kernel_rfl) (by kernel_rfl) ?_ ?_ ?_
  · intro V hV v w1 w2 h hb
    simp only [List.mem_cons, List.not_mem_nil, or_false] at hV
    rcases hV with rfl | rfl | rfl | rfl | rfl | rfl
    all_goals first | exact h | (first | (obtain ⟨A9, n9, c9, h1, h2⟩ := h; exact ⟨A9, n9, c9, h1, h2.below hb⟩) | (obtain ⟨g, A9, n9, c9, h1, h2, h3, h4, h5, h6, h7⟩ := h; exact ⟨g, A9, n9, c9, h1, h2.below hb, Below.keeps hb _ _ h3, Below.keeps hb _ _ h4, Below.keeps hb _ _ h5, Below.keeps hb _ _ h6, Below.keeps hb _ _ h7⟩))
  · intro i o hi ho
    match i, hi with
    | 0, _ =>
    obtain rfl := Option.some.inj ho
    intro a1 w1 K hk hK
    have e2 : a1.tmps.getD 2 undef = .pointer (some ⟨B, 0, none⟩) := hk.same 2 (by simp)
    have c0 : w1.cell? ⟨B, 0, none⟩ = some (vo) := Below.keeps hk.ext _ _ (by simp [go_sem, kb, k0, k1, k2, k3, k4])
    have c1 : w1.cell? ⟨bx, ox, none⟩ = some (.slice Ax x.p.length cx) := Below.keeps hk.ext _ _ (by simp [go_sem, kb, k0, k1, k2, k3, k4])
    have c2 : w1.cell? ⟨bx, ox + 1, none⟩ = some (.bool x.had) := Below.keeps hk.ext _ _ (by simp [go_sem, kb, k0, k1, k2, k3, k4])
    have c3 : w1.cell? ⟨bx, ox + 2, none⟩ = some (.bool x.has) := Below.keeps hk.ext _ _ (by simp [go_sem, kb, k0, k1, k2, k3, k4])
    have c4 : w1.cell? ⟨bx, ox + 3, none⟩ = some (.int .u64 (x.old : Nat)) := Below.keeps hk.ext _ _ (by simp [go_sem, kb, k0, k1, k2, k3, k4])
    have c5 : w1.cell? ⟨bx, ox + 4, none⟩ = some (.int .u64 (x.new : Nat)) := Below.keeps hk.ext _ _ (by simp [go_sem, kb, k0, k1, k2, k3, k4])
    simp [Region.wanted, Oper.wp, Act.eval, go_sem, e2, c0, c1, c2, c3, c4, c5, kb, k0, k1, k2, k3, k4]
    exact hK _ _ (Below.refl _ _) rfl
    | 1, _ =>
    obtain rfl := Option.some.inj ho
    intro a1 w1 K hk hK
    have e1 : a1.tmps.getD 1 undef = .pointer (some ⟨bx, ox, none⟩) := hk.same 1 (by simp)
    simp [Region.wanted, Oper.wp, Act.eval, go_sem, e1, kb, k0, k1, k2, k3, k4]
    exact hK _ _ (Below.refl _ _) rfl
    | 2, _ =>
    obtain rfl := Option.some.inj ho
    intro a1 w1 K hk hK
    have d49 : a1.tmps.getD 49 undef = .pointer (some ⟨bx, ox, none⟩) := hk.deps ⟨1, .data⟩ (by simp) rfl _ _ rfl rfl
    simp [Region.wanted, Oper.wp, Act.eval, go_sem, d49, kb, k0, k1, k2, k3, k4]
    exact hK _ _ (Below.refl _ _) rfl
    | 3, _ =>
    obtain rfl := Option.some.inj ho
    intro a1 w1 K hk hK
    have d50 : a1.tmps.getD 50 undef = .pointer (some ⟨bx, ox, none⟩) := hk.deps ⟨2, .data⟩ (by simp) rfl _ _ rfl rfl
    have c0 : w1.cell? ⟨B, 0, none⟩ = some (vo) := Below.keeps hk.ext _ _ (by simp [go_sem, kb, k0, k1, k2, k3, k4])
    have c1 : w1.cell? ⟨bx, ox, none⟩ = some (.slice Ax x.p.length cx) := Below.keeps hk.ext _ _ (by simp [go_sem, kb, k0, k1, k2, k3, k4])
    have c2 : w1.cell? ⟨bx, ox + 1, none⟩ = some (.bool x.had) := Below.keeps hk.ext _ _ (by simp [go_sem, kb, k0, k1, k2, k3, k4])
    have c3 : w1.cell? ⟨bx, ox + 2, none⟩ = some (.bool x.has) := Below.keeps hk.ext _ _ (by simp [go_sem, kb, k0, k1, k2, k3, k4])
    have c4 : w1.cell? ⟨bx, ox + 3, none⟩ = some (.int .u64 (x.old : Nat)) := Below.keeps hk.ext _ _ (by simp [go_sem, kb, k0, k1, k2, k3, k4])
    have c5 : w1.cell? ⟨bx, ox + 4, none⟩ = some (.int .u64 (x.new : Nat)) := Below.keeps hk.ext _ _ (by simp [go_sem, kb, k0, k1, k2, k3, k4])
    simp [Region.wanted, Oper.wp, Act.eval, go_sem, d50, c0, c1, c2, c3, c4, c5, kb, k0, k1, k2, k3, k4]
    exact hK _ _ (Below.refl _ _) rfl
    | 4, _ =>
    obtain rfl := Option.some.inj ho
    intro a1 w1 K hk hK
    have d51 : a1.tmps.getD 51 undef = .agg #[.slice Ax x.p.length cx, .bool x.had, .bool x.has, .int .u64 (x.old : Nat), .int .u64 (x.new : Nat)] := hk.deps ⟨3, .data⟩ (by simp) rfl _ _ rfl rfl
    simp [Region.wanted, Oper.wp, Act.eval, go_sem, d51, kb, k0, k1, k2, k3, k4]
    refine (HO.out _ (HV.out.below (below_trans (by repeat (first | exact Below.refl _ _ | assumption | (refine Below.drew ?_) | (refine below_drewN' ?_ _) | (refine below_alloc' ?_ _))) hk.ext))).mono ?_
    rintro e w2 ⟨A9, n9, c9, rfl, hp9, hb9⟩
    exact hK _ _ hb9 ⟨A9, n9, c9, rfl, hp9⟩
    | 5, _ =>
    obtain rfl := Option.some.inj ho
    intro a1 w1 K hk hK
    have D52 : ∃ A9 n9 c9, (a1.tmps.getD 52 undef) = .agg #[.slice A9 n9 c9, .bool x.had, .bool x.has, .int .u64 (x.old : Nat), .int .u64 (x.new : Nat)] ∧ PtNew w1 (.slice A9 n9 c9) x.p := hk.deps ⟨4, .data⟩ (by simp) rfl _ _ rfl rfl
    obtain ⟨A9, n9, c9, D9, hpt⟩ := D52
    have D9x : a1.tmps[52]?.getD undef = .agg #[.slice A9 n9 c9, .bool x.had, .bool x.has, .int .u64 (x.old : Nat), .int .u64 (x.new : Nat)] := by rw [← D9]; simp
    simp [Region.wanted, Oper.wp, Act.eval, go_sem, D9, D9x]
    refine hK _ _ (by repeat (first | exact Below.refl _ _ | assumption | (refine Below.drew ?_) | (refine below_drewN' ?_ _) | (refine below_alloc' ?_ _))) ⟨_, A9, n9, c9, rfl, hpt.below (by repeat (first | exact Below.refl _ _ | assumption | (refine Below.drew ?_) | (refine below_drewN' ?_ _) | (refine below_alloc' ?_ _))), ?_, ?_, ?_, ?_, ?_⟩
    all_goals simp [go_sem]
  · intro vs w3 hl hb3 hv
    match vs, hl with
    | [v0, v1, v2, v3, v4, v5], _ =>
    obtain rfl : v0 = vo := hv 0 (by omega)
    obtain rfl : v1 = .pointer (some ⟨bx, ox, none⟩) := hv 1 (by omega)
    obtain rfl : v2 = .pointer (some ⟨bx, ox, none⟩) := hv 2 (by omega)
    obtain rfl : v3 = .agg #[.slice Ax x.p.length cx, .bool x.had, .bool x.has, .int .u64 (x.old : Nat), .int .u64 (x.new : Nat)] := hv 3 (by omega)
    have q4 : ∃ A9 n9 c9, v4 = .agg #[.slice A9 n9 c9, .bool x.had, .bool x.has, .int .u64 (x.old : Nat), .int .u64 (x.new : Nat)] ∧ PtNew w3 (.slice A9 n9 c9) x.p := hv 4 (by omega)
    have q5 : ∃ g A9 n9 c9, v5 = .slice (some ⟨g, 0, none⟩) 1 1 ∧ PtNew w3 (.slice A9 n9 c9) x.p ∧ w3.cell? ⟨g, 0, none⟩ = some (.slice A9 n9 c9) ∧ w3.cell? ⟨g, 1, none⟩ = some (.bool x.had) ∧ w3.cell? ⟨g, 2, none⟩ = some (.bool x.has) ∧ w3.cell? ⟨g, 3, none⟩ = some (.int .u64 (x.old : Nat)) ∧ w3.cell? ⟨g, 4, none⟩ = some (.int .u64 (x.new : Nat)) := hv 5 (by omega)
    clear hv
    obtain ⟨g, A9, n9, c9, rfl, hpt, g0, g1, g2, g3, g4⟩ := q5
    clear q4
    simp only [putAll, List.take_succ_cons, List.take_zero, List.drop_succ_cons, List.drop_zero, Act.put, List.setIfInBounds_toArray, List.set_cons_succ, List.set_cons_zero]
    have HX3 := Lib.hid hb3
    have HG := Lib.hid (show SrcC (PtNew w3) w3 (.slice (some ⟨g, 0, none⟩) 1 1) x from ⟨g, 1, _, rfl, g0, hpt, g1, g2, g3, g4⟩)
    clear hb3 g0 g1 g2 g3 g4 hpt k0 k1 k2 k3 k4 kb
    have HO3 := Lib.hid (show OwnC (PtNew w3) W w3 v0 o from (HI.out.2.1.below HX3.out).mono fun u p h => h.below HX3.out)
    have HB3 := Lib.hid (HI.out.2.2.1.trans (HX3.out.mono HI.out.2.2.1.size))
    have HBl := Lib.hid (show w3.heap[B]? = some (.cells #[v0] 62 (0, 0)) from (HX3.out.block B hlB).trans HI.out.1)
    refine wpList_append_C (Pt := PtNew w3) rfl (.tmp 48) (.tmp 53) rfl W o x (fun u p h => h.rd) HO3.out HG.out HB3.out.size (by have := HI.out.2.2.2.2; omega) ?_
    intro v6 w4 hown4 hg4
    obtain ⟨A6, n6, c6, rfl⟩ := hown4.shape
    obtain ⟨hb4, hI4⟩ := InvT.push HI.out.2.2.2.1 HBl.out HO3.out HB3.out hown4 hg4
    have c4 := cell_of_one hb4
    have f4 := free_of_one hb4
    have HI4 := Lib.hid hI4
    clear hown4 hg4 hb4 hI4
    go_wp2_with fail
    go_ret
    exact ⟨rfl, HI4.out⟩

end Go.Proofs.Ytlmgabhdeeehmaa
