/-
  Texts that the proof of MergeNil leans on, part 5: contracts of functions, and plain laws.
-/
import Derived.Test.YtdkomhmciihkiaaGreatMMergeNil4
import Derived.ScopeJumps
import Derived.WalkMore
/-! MrgB -/
namespace Go.Proofs.YtdkomhmciihkiaaGreat
open Go.RowKit
set_option linter.unusedVariables false
set_option linter.unusedSimpArgs false

/-- a value, or none -/
def valV (x : Option Nat) : Value := .agg #[.bool x.isSome, .int .u64 ((x.getD 0 : Nat) : Int)]
def clV (u : Value) (c : Clh) : Value := .agg #[u, .bool c.inO, .bool c.inA, .bool c.inB, .int .u64 (c.o : Nat), .int .u64 (c.a : Nat), .int .u64 (c.b : Nat)]
def ClOk (c : Clh) : Prop := (c.inO = false → c.o = 0) ∧ (c.inA = false → c.a = 0) ∧ (c.inB = false → c.b = 0)
structure PickOk (f : FuncId) (g : Clh → Option Nat) : Prop where
  ent : ∀ args w, (callFunc f args).run Tryz.prog w = .ok (.enter f args) w
  run : ∀ w A n cc c, ClOk c → Calls Tryz.prog f #[clV (.slice A n cc) c] w fun e w' => e = .returned (valV (g c)) ∧ Below w.heap.size w w'
/-- what both hands back -/
def BothP (W w : World) (G k : Nat) (pk : Value) (x : Option Nat) (cl : List Clh) (e : Ending) (w' : World) : Prop := e = .returned (valV x) ∧ InvM W G k pk cl w' ∧ Km w w'

theorem alloc3 (w : World) (o0 o1 o2 : Obj) : (((w.alloc o0).alloc o1).alloc o2).heap[w.heap.size]? = some o0 ∧ (((w.alloc o0).alloc o1).alloc o2).heap[w.heap.size + 1]? = some o1 ∧ (((w.alloc o0).alloc o1).alloc o2).heap[w.heap.size + 1 + 1]? = some o2 ∧ Below w.heap.size w (((w.alloc o0).alloc o1).alloc o2) := by
  have a0 := heap_alloc_new w o0
  have a1 := heap_alloc_new (w.alloc o0) o1
  have a2 := heap_alloc_new ((w.alloc o0).alloc o1) o2
  have a3 := (Below.heap_alloc _ o1 _ (lt_of_block a0)).trans a0
  have a4 := (Below.heap_alloc _ o2 _ (lt_of_block a3)).trans a3
  have a5 := (Below.heap_alloc _ o2 _ (lt_of_block a1)).trans a1
  simp only [World.size_alloc] at a1 a2 a5
  exact ⟨a4, a5, a2, (by repeat (first | exact Below.refl _ _ | (refine Below.drew ?_) | (refine below_drewN' ?_ _) | (refine below_alloc' ?_ _) | (refine Below.setCell ?_ (by first | exact Nat.le_refl _ | (simp; done) | (simp; omega)) _)))⟩
theorem cells5_of {w : World} {b : Nat} {v0 v1 v2 v3 v4 : Value} {t : TypeId} {fr : Nat × Nat} (h : w.heap[b]? = some (.cells #[v0, v1, v2, v3, v4] t fr)) :
    w.cell? ⟨b, 0, none⟩ = some v0 ∧ w.cell? ⟨b, 1, none⟩ = some v1 ∧ w.cell? ⟨b, 2, none⟩ = some v2 ∧ w.cell? ⟨b, 3, none⟩ = some v3 ∧ w.cell? ⟨b, 4, none⟩ = some v4 :=
  ⟨by simp [World.cell?, h], by simp [World.cell?, h], by simp [World.cell?, h], by simp [World.cell?, h], by simp [World.cell?, h]⟩
theorem cells7_of {w : World} {b : Nat} {v0 v1 v2 v3 v4 v5 v6 : Value} {t : TypeId} {fr : Nat × Nat} (h : w.heap[b]? = some (.cells #[v0, v1, v2, v3, v4, v5, v6] t fr)) :
    w.cell? ⟨b, 0, none⟩ = some v0 ∧ w.cell? ⟨b, 1, none⟩ = some v1 ∧ w.cell? ⟨b, 2, none⟩ = some v2 ∧ w.cell? ⟨b, 3, none⟩ = some v3 ∧ w.cell? ⟨b, 4, none⟩ = some v4 ∧ w.cell? ⟨b, 5, none⟩ = some v5 ∧ w.cell? ⟨b, 6, none⟩ = some v6 :=
  ⟨by simp [World.cell?, h], by simp [World.cell?, h], by simp [World.cell?, h], by simp [World.cell?, h], by simp [World.cell?, h], by simp [World.cell?, h], by simp [World.cell?, h]⟩
theorem Km.setNew {w w' : World} {R j : Nat} {x : Value} (h : Km w w') (hR : w.heap.size ≤ R) : Km w (w'.setCell ⟨R, j, none⟩ x) := by
  refine ⟨by rw [World.size_setCell]; exact h.size, fun b cur t fr h1 h2 => ?_⟩
  have := lt_of_block h1
  rw [heap_setCell_other _ _ _ _ (show b ≠ R by omega)]
  exact h.keep b cur t fr h1 h2
theorem InvM.setNew {W w : World} {G k R j : Nat} {pk x : Value} {cl : List Clh} {cur : Array Value} {t : TypeId} {fr : Nat × Nat} (h : InvM W G k pk cl w) (hR : w.heap[R]? = some (.cells cur t fr)) (h1 : t ≠ 149) (h2 : t ≠ 248) (h3 : t ≠ 22) (hW : W.heap.size ≤ R) : InvM W G k pk cl (w.setCell ⟨R, j, none⟩ x) := by
  obtain ⟨vo, q1, q2, q3, q4⟩ := h
  have hfar : ∀ b, b ≠ R → (w.setCell ⟨R, j, none⟩ x).heap[b]? = w.heap[b]? := fun b hb => heap_setCell_other _ _ _ _ hb
  refine ⟨vo, (hfar _ (ne_type q1 hR (fun e => h2 e.symm))).trans q1, ?_, q3.setCell hW _, q4⟩
  refine (q2.mono fun u p hu => hu.keepBlock fun b cur fr hb => hfar b (ne_type hb hR (fun e => h3 e.symm))).keepBlock fun b cur hb => hfar b (ne_type hb hR (fun e => h1 e.symm))

set_option maxRecDepth 100000 in
set_option maxHeartbeats 4000000 in
theorem both_tf (W w : World) (G k : Nat) (f : FuncId) (g : Clh → Option Nat) (cl : List Clh) (p : List Nat) (A0 A1 : Option Addr) (n0 cc0 n1 cc1 : Nat) (had hady : Bool) (ox nx oy ny : Nat) (hP : PickOk f g) (hi : InvM W G k (.func (.func f) #[] #[]) cl w) (hu : PtNew w (.slice A0 n0 cc0) p) (hcl : cl.length ≤ 1000)
    (hok : ClOk ⟨p, had, true, false, ox, nx, ny⟩) :
    Calls Tryz.prog 246 #[.pointer (some ⟨G, 0, none⟩), .agg #[.slice A0 n0 cc0, .bool had, .bool true, .int .u64 (ox : Nat), .int .u64 (nx : Nat)], .agg #[.slice A1 n1 cc1, .bool hady, .bool false, .int .u64 (oy : Nat), .int .u64 (ny : Nat)]] w fun e w' => BothP W w G k (.func (.func f) #[] #[]) (g ⟨p, had, true, false, ox, nx, ny⟩) (cl ++ [⟨p, had, true, false, ox, nx, ny⟩]) e w' := by
  have HPK := Lib.hid (fun w => hP.run w A0 n0 cc0 ⟨p, had, true, false, ox, nx, ny⟩ hok)
  have HLen := Lib.hid hcl
  have hent := fun args w => hP.ent args w
  have HI0 := Lib.hid hi
  have HU0 := Lib.hid hu
  obtain ⟨x, hx⟩ : ∃ x, g ⟨p, had, true, false, ox, nx, ny⟩ = x := ⟨_, rfl⟩
  rw [hx] at HPK ⊢
  clear hP hok hi hu hcl hx
  go_enter Tryz.func246, Tryz.ntmps246
  iterate 20 go_step
  obtain ⟨bX, bY, bR, hbA⟩ := alloc3 w (.cells #[.slice A0 n0 cc0, .bool had, .bool true, .int .u64 (ox : Nat), .int .u64 (nx : Nat)] 169) (.cells #[.slice A1 n1 cc1, .bool hady, .bool false, .int .u64 (oy : Nat), .int .u64 (ny : Nat)] 169) (.cells #[.bool false, .int .u64 0] 245)
  have HIA := Lib.hid (HI0.out.below hbA)
  have HUA := Lib.hid (HU0.out.below hbA)
  obtain ⟨X, hX⟩ : ∃ X, w.heap.size = X := ⟨_, rfl⟩
  have HRX := Lib.hid (show w.heap.size ≤ X + 1 + 1 by omega)
  have HBA := Lib.hid hbA
  have HIW := Lib.hid (show W.heap.size ≤ w.heap.size from HI0.out.bel.size)
  have hG := HI0.out.lt
  rw [hX] at bX bY bR hG ⊢
  generalize ((w.alloc (.cells #[.slice A0 n0 cc0, .bool had, .bool true, .int .u64 (ox : Nat), .int .u64 (nx : Nat)] 169)).alloc (.cells #[.slice A1 n1 cc1, .bool hady, .bool false, .int .u64 (oy : Nat), .int .u64 (ny : Nat)] 169)).alloc (.cells #[.bool false, .int .u64 0] 245) = wA at *
  obtain ⟨a0, a1, a2, a3, a4⟩ := cells5_of bX
  obtain ⟨b0, b1, b2, b3, b4⟩ := cells5_of bY
  have lX := lt_of_block bX
  have lY := lt_of_block bY
  have HR := Lib.hid bR
  have HGR := Lib.hid (show X + 1 + 1 ≠ G by omega)
  obtain ⟨R, hR⟩ : ∃ R, X + 1 + 1 = R := ⟨_, rfl⟩
  rw [hR] at HR HGR HRX ⊢
  clear bX bY bR hbA hX hG hR
  go_wp2_with fail
  have hbB : Below wA.heap.size wA (wA.alloc (.cells #[.slice A0 n0 cc0, .bool had, .bool true, .bool false, .int .u64 (ox : Nat), .int .u64 (nx : Nat), .int .u64 (ny : Nat)] 149)) := (by repeat (first | exact Below.refl _ _ | (refine Below.drew ?_) | (refine below_drewN' ?_ _) | (refine below_alloc' ?_ _) | (refine Below.setCell ?_ (by first | exact Nat.le_refl _ | (simp; done) | (simp; omega)) _)))
  have HUB := Lib.hid (HUA.out.below hbB)
  have HIB := Lib.hid (HIA.out.below hbB)
  have bC := heap_alloc_new wA (.cells #[.slice A0 n0 cc0, .bool had, .bool true, .bool false, .int .u64 (ox : Nat), .int .u64 (nx : Nat), .int .u64 (ny : Nat)] 149 (0, 0))
  have HRB := Lib.hid ((hbB.block _ (lt_of_block HR.out)).trans HR.out)
  have HBB := Lib.hid (HBA.out.trans (hbB.mono HBA.out.size))
  obtain ⟨A, c, hown, hblk, g0, g1, g2, gf⟩ := HIA.out.cells
  have hCne : ∀ q, (Value.slice A cl.length c).ownBlock = some q → q ≠ wA.heap.size := fun q hq => by have := lt_of_block (hown.block q hq).2.choose_spec; omega
  have hownB : OwnX (PtNew (wA.alloc (.cells #[.slice A0 n0 cc0, .bool had, .bool true, .bool false, .int .u64 (ox : Nat), .int .u64 (nx : Nat), .int .u64 (ny : Nat)] 149))) W (wA.alloc (.cells #[.slice A0 n0 cc0, .bool had, .bool true, .bool false, .int .u64 (ox : Nat), .int .u64 (nx : Nat), .int .u64 (ny : Nat)] 149)) (.slice A cl.length c) cl := (hown.mono fun u p h => h.below hbB).below hbB
  have hblkB := (hbB.block _ (lt_of_block hblk)).trans hblk
  clear hown hblk g0 g1 g2 gf a0 a1 a2 a3 a4 b0 b1 b2 b3 b4 lX lY HIA HUA HR HBA
  obtain ⟨C, hC⟩ : ∃ C, wA.heap.size = C := ⟨_, rfl⟩
  rw [hC] at bC hCne ⊢
  generalize wA.alloc (.cells #[.slice A0 n0 cc0, .bool had, .bool true, .bool false, .int .u64 (ox : Nat), .int .u64 (nx : Nat), .int .u64 (ny : Nat)] 149) = wB at *
  obtain ⟨x0, x1, x2, x3, x4, x5, x6⟩ := cells7_of bC
  have hlC := lt_of_block bC
  have HC := Lib.hid (And.intro bC hCne)
  have g2 : wB.cell? ⟨G, 2, none⟩ = some (.slice A cl.length c) := by simp [World.cell?, hblkB]
  have hlG := lt_of_block hblkB
  have HOw := Lib.hid hownB
  have HPu := Lib.hid HUB.out
  have HBw := Lib.hid HIB.out.bel
  have HGb := Lib.hid hblkB
  have HWG := Lib.hid (show W.heap.size ≤ G from let ⟨_, _, _, _, h⟩ := HIB.out; h)
  clear bC hCne hC hbB hownB hblkB
  refine wp_region_late 7 (fun q => decide (q = 0) || decide (q = 8) || decide (q = 9)) (fun w w' => World.grownBy w w' (Value.slice A cl.length c).ownBlock) 10 [fun z9 _ => z9 = .pointer (some ⟨G, 0, none⟩),
    fun z9 _ => z9 = .pointer (some ⟨G, 0, none⟩),
    fun z9 _ => z9 = .pointer (some ⟨G, 0, none⟩),
    fun z9 _ => z9 = .pointer (some ⟨G, 2, none⟩),
    fun z9 _ => z9 = .slice A cl.length c,
    fun z9 _ => z9 = .agg #[.slice A0 n0 cc0, .bool had, .bool true, .bool false, .int .u64 (ox : Nat), .int .u64 (nx : Nat), .int .u64 (ny : Nat)],
    fun v9 w9 => ∃ g, v9 = .slice (some ⟨g, 0, none⟩) 1 1 ∧ w9.heap[g]? = some (.cells #[.slice A0 n0 cc0, .bool had, .bool true, .bool false, .int .u64 (ox : Nat), .int .u64 (nx : Nat), .int .u64 (ny : Nat)] 149 (0, 0)) ∧ some g ≠ (Value.slice A cl.length c).ownBlock,
    fun v9 w9 => ∃ wa, Below wB.heap.size wB wa ∧ World.grownBy wa w9 (Value.slice A cl.length c).ownBlock ∧ OwnX (PtNew wB) W w9 v9 (cl ++ [⟨p, had, true, false, ox, nx, ny⟩]),
    fun z9 _ => z9 = .pointer (some ⟨G, 0, none⟩),
    fun z9 _ => z9 = .pointer (some ⟨G, 2, none⟩)]
    (by kernel_rfl) (by kernel_rfl) (by kernel_rfl) (by kernel_rfl) ?_ ?_ (by kernel_rfl) rfl ?_ ?_
  · intro i V hne hi v w1 w2 h hb
    match i, hne, hi with
    | 0, _, hi => obtain rfl := Option.some.inj hi; exact h
    | 1, _, hi => obtain rfl := Option.some.inj hi; exact h
    | 2, _, hi => obtain rfl := Option.some.inj hi; exact h
    | 3, _, hi => obtain rfl := Option.some.inj hi; exact h
    | 4, _, hi => obtain rfl := Option.some.inj hi; exact h
    | 5, _, hi => obtain rfl := Option.some.inj hi; exact h
    | 6, _, hi =>
    obtain rfl := Option.some.inj hi
    first | exact h | (obtain ⟨g, h1, h2, h3⟩ := h; exact ⟨g, h1, (hb.block _ (lt_of_block h2)).trans h2, h3⟩)
    | 7, hne, _ => exact absurd rfl hne
    | 8, _, hi => obtain rfl := Option.some.inj hi; exact h
    | 9, _, hi => obtain rfl := Option.some.inj hi; exact h
    | k + 10, _, hi => simp at hi
  · intro i V hne hi v w1 w2 h hb
    match i, hne, hi with
    | 0, _, hi => obtain rfl := Option.some.inj hi; exact h
    | 1, _, hi => obtain rfl := Option.some.inj hi; exact h
    | 2, _, hi => obtain rfl := Option.some.inj hi; exact h
    | 3, _, hi => obtain rfl := Option.some.inj hi; exact h
    | 4, _, hi => obtain rfl := Option.some.inj hi; exact h
    | 5, _, hi => obtain rfl := Option.some.inj hi; exact h
    | 6, _, hi =>
    obtain rfl := Option.some.inj hi
    first | exact h | (obtain ⟨g, h1, h2, h3⟩ := h; exact ⟨g, h1, (hb.block g (lt_of_block h2) h3).trans h2, h3⟩)
    | 7, hne, _ => exact absurd rfl hne
    | 8, _, hi => obtain rfl := Option.some.inj hi; exact h
    | 9, _, hi => obtain rfl := Option.some.inj hi; exact h
    | k + 10, _, hi => simp at hi
  · intro i o hi ho
    match i, hi with
    | 0, _ =>
    obtain rfl := Option.some.inj ho
    intro a1 w1 K hk hK
    have e0 : a1.tmps.getD 0 undef = .pointer (some ⟨G, 0, none⟩) := hk.same 0 (by simp)
    simp [Region.wanted, Oper.wp, Act.eval, go_sem, e0, g2, x0, x1, x2, x3, x4, x5, x6, hlG, hlC]
    exact hK _ _ (step_late (by decide) rfl) rfl
    | 1, _ =>
    obtain rfl := Option.some.inj ho
    intro a1 w1 K hk hK
    have e0 : a1.tmps.getD 0 undef = .pointer (some ⟨G, 0, none⟩) := hk.same 0 (by simp)
    simp [Region.wanted, Oper.wp, Act.eval, go_sem, e0, g2, x0, x1, x2, x3, x4, x5, x6, hlG, hlC]
    exact hK _ _ (step_early (by decide) rfl (Below.refl _ _)) rfl
    | 2, _ =>
    obtain rfl := Option.some.inj ho
    intro a1 w1 K hk hK
    have d41 : a1.tmps.getD 41 undef = .pointer (some ⟨G, 0, none⟩) := hk.deps ⟨1, .data⟩ (by simp) rfl _ _ rfl rfl
    simp [Region.wanted, Oper.wp, Act.eval, go_sem, d41, g2, x0, x1, x2, x3, x4, x5, x6, hlG, hlC]
    exact hK _ _ (step_early (by decide) rfl (Below.refl _ _)) rfl
    | 3, _ =>
    obtain rfl := Option.some.inj ho
    intro a1 w1 K hk hK
    have d42 : a1.tmps.getD 42 undef = .pointer (some ⟨G, 0, none⟩) := hk.deps ⟨2, .data⟩ (by simp) rfl _ _ rfl rfl
    simp [Region.wanted, Oper.wp, Act.eval, go_sem, d42, g2, x0, x1, x2, x3, x4, x5, x6, hlG, hlC]
    exact hK _ _ (step_early (by decide) rfl (Below.refl _ _)) rfl
    | 4, _ =>
    obtain rfl := Option.some.inj ho
    intro a1 w1 K hk hK
    have d43 : a1.tmps.getD 43 undef = .pointer (some ⟨G, 2, none⟩) := hk.deps ⟨3, .data⟩ (by simp) rfl _ _ rfl rfl
    have c0 : w1.cell? ⟨G, 2, none⟩ = some (.slice A cl.length c) := Below.keeps (hk.ext rfl) _ _ (by simp [go_sem, g2, x0, x1, x2, x3, x4, x5, x6, hlG, hlC])
    have c1 : w1.cell? ⟨C, 0, none⟩ = some (.slice A0 n0 cc0) := Below.keeps (hk.ext rfl) _ _ (by simp [go_sem, g2, x0, x1, x2, x3, x4, x5, x6, hlG, hlC])
    have c2 : w1.cell? ⟨C, 1, none⟩ = some (.bool had) := Below.keeps (hk.ext rfl) _ _ (by simp [go_sem, g2, x0, x1, x2, x3, x4, x5, x6, hlG, hlC])
    have c3 : w1.cell? ⟨C, 2, none⟩ = some (.bool true) := Below.keeps (hk.ext rfl) _ _ (by simp [go_sem, g2, x0, x1, x2, x3, x4, x5, x6, hlG, hlC])
    have c4 : w1.cell? ⟨C, 3, none⟩ = some (.bool false) := Below.keeps (hk.ext rfl) _ _ (by simp [go_sem, g2, x0, x1, x2, x3, x4, x5, x6, hlG, hlC])
    have c5 : w1.cell? ⟨C, 4, none⟩ = some (.int .u64 (ox : Nat)) := Below.keeps (hk.ext rfl) _ _ (by simp [go_sem, g2, x0, x1, x2, x3, x4, x5, x6, hlG, hlC])
    have c6 : w1.cell? ⟨C, 5, none⟩ = some (.int .u64 (nx : Nat)) := Below.keeps (hk.ext rfl) _ _ (by simp [go_sem, g2, x0, x1, x2, x3, x4, x5, x6, hlG, hlC])
    have c7 : w1.cell? ⟨C, 6, none⟩ = some (.int .u64 (ny : Nat)) := Below.keeps (hk.ext rfl) _ _ (by simp [go_sem, g2, x0, x1, x2, x3, x4, x5, x6, hlG, hlC])
    simp [Region.wanted, Oper.wp, Act.eval, go_sem, d43, c0, c1, c2, c3, c4, c5, c6, c7, g2, x0, x1, x2, x3, x4, x5, x6, hlG, hlC]
    exact hK _ _ (step_early (by decide) rfl (Below.refl _ _)) rfl
    | 5, _ =>
    obtain rfl := Option.some.inj ho
    intro a1 w1 K hk hK
    have e7 : a1.tmps.getD 7 undef = .pointer (some ⟨C, 0, none⟩) := hk.same 7 (by simp)
    have c0 : w1.cell? ⟨G, 2, none⟩ = some (.slice A cl.length c) := Below.keeps (hk.ext rfl) _ _ (by simp [go_sem, g2, x0, x1, x2, x3, x4, x5, x6, hlG, hlC])
    have c1 : w1.cell? ⟨C, 0, none⟩ = some (.slice A0 n0 cc0) := Below.keeps (hk.ext rfl) _ _ (by simp [go_sem, g2, x0, x1, x2, x3, x4, x5, x6, hlG, hlC])
    have c2 : w1.cell? ⟨C, 1, none⟩ = some (.bool had) := Below.keeps (hk.ext rfl) _ _ (by simp [go_sem, g2, x0, x1, x2, x3, x4, x5, x6, hlG, hlC])
    have c3 : w1.cell? ⟨C, 2, none⟩ = some (.bool true) := Below.keeps (hk.ext rfl) _ _ (by simp [go_sem, g2, x0, x1, x2, x3, x4, x5, x6, hlG, hlC])
    have c4 : w1.cell? ⟨C, 3, none⟩ = some (.bool false) := Below.keeps (hk.ext rfl) _ _ (by simp [go_sem, g2, x0, x1, x2, x3, x4, x5, x6, hlG, hlC])
    have c5 : w1.cell? ⟨C, 4, none⟩ = some (.int .u64 (ox : Nat)) := Below.keeps (hk.ext rfl) _ _ (by simp [go_sem, g2, x0, x1, x2, x3, x4, x5, x6, hlG, hlC])
    have c6 : w1.cell? ⟨C, 5, none⟩ = some (.int .u64 (nx : Nat)) := Below.keeps (hk.ext rfl) _ _ (by simp [go_sem, g2, x0, x1, x2, x3, x4, x5, x6, hlG, hlC])
    have c7 : w1.cell? ⟨C, 6, none⟩ = some (.int .u64 (ny : Nat)) := Below.keeps (hk.ext rfl) _ _ (by simp [go_sem, g2, x0, x1, x2, x3, x4, x5, x6, hlG, hlC])
    simp [Region.wanted, Oper.wp, Act.eval, go_sem, e7, c0, c1, c2, c3, c4, c5, c6, c7, g2, x0, x1, x2, x3, x4, x5, x6, hlG, hlC]
    exact hK _ _ (step_early (by decide) rfl (Below.refl _ _)) rfl
    | 6, _ =>
    obtain rfl := Option.some.inj ho
    intro a1 w1 K hk hK
    have d45 : a1.tmps.getD 45 undef = .agg #[.slice A0 n0 cc0, .bool had, .bool true, .bool false, .int .u64 (ox : Nat), .int .u64 (nx : Nat), .int .u64 (ny : Nat)] := hk.deps ⟨5, .data⟩ (by simp) rfl _ _ rfl rfl
    have d45x : a1.tmps[45]?.getD undef = .agg #[.slice A0 n0 cc0, .bool had, .bool true, .bool false, .int .u64 (ox : Nat), .int .u64 (nx : Nat), .int .u64 (ny : Nat)] := by rw [← d45]; simp
    have D45x : a1.tmps[45]?.getD undef = .agg #[.slice A0 n0 cc0, .bool had, .bool true, .bool false, .int .u64 (ox : Nat), .int .u64 (nx : Nat), .int .u64 (ny : Nat)] := by rw [← d45]; simp
    simp [Region.wanted, Oper.wp, Act.eval, go_sem, d45, D45x]
    refine hK _ _ (step_early (by decide) rfl (by repeat (first | exact Below.refl _ _ | assumption | (refine Below.drew ?_) | (refine below_drewN' ?_ _) | (refine below_alloc' ?_ _)))) ⟨_, rfl, heap_alloc_new _ _, ?_⟩
    intro e
    obtain ⟨_, cur9, h1⟩ := HOw.out.block _ e.symm
    have h1 := lt_of_block h1
    have h2 := (hk.ext rfl).size
    simp at h2; omega
    | 7, _ =>
    obtain rfl := Option.some.inj ho
    intro a1 w1 K hk hK
    have d44 : a1.tmps.getD 44 undef = .slice A cl.length c := hk.deps ⟨4, .data⟩ (by simp) rfl _ _ rfl rfl
    have D46 : ∃ g, (a1.tmps.getD 46 undef) = .slice (some ⟨g, 0, none⟩) 1 1 ∧ w1.heap[g]? = some (.cells #[.slice A0 n0 cc0, .bool had, .bool true, .bool false, .int .u64 (ox : Nat), .int .u64 (nx : Nat), .int .u64 (ny : Nat)] 149 (0, 0)) ∧ some g ≠ (Value.slice A cl.length c).ownBlock := hk.deps ⟨6, .data⟩ (by simp) rfl _ _ rfl rfl
    obtain ⟨g, D46e, hg0, hgne⟩ := D46
    have hb1 : Below wB.heap.size wB w1 := below_trans (by repeat (first | exact Below.refl _ _ | assumption | (refine Below.drew ?_) | (refine below_drewN' ?_ _) | (refine below_alloc' ?_ _))) (hk.ext rfl)
    obtain ⟨v', w', hrun, r1, r2⟩ := run_append_X (Pt := PtNew wB) W w1 (fun u p h => (h.below hb1).rd) (Value.slice A cl.length c) (.slice (some ⟨g, 0, none⟩) 1 1) cl (⟨p, had, true, false, ox, nx, ny⟩ : Clh) (HOw.out.below hb1) ⟨g, 1, _, rfl, HPu.out, fun i hi => by simp only [World.cell?, hg0]; simp [clCells]⟩ (Nat.le_trans HBw.out.size hb1.size) (by have := HLen.out; omega) 63
    split
    · refine wp_append_run (s := .tmp 44) (x := .tmp 46) rfl (by rw [show a1.eval (.tmp 44) = .slice A cl.length c from d44, show a1.eval (.tmp 46) = _ from D46e]; exact hrun) (hK _ _ (step_sp r2) ⟨w1, hb1, r2, r1⟩)
    · rename_i hw0; simp [Region.wanted] at hw0
    | 8, _ =>
    obtain rfl := Option.some.inj ho
    intro a1 w1 K hk hK
    have d40 : a1.tmps.getD 40 undef = .pointer (some ⟨G, 0, none⟩) := hk.deps ⟨0, .data⟩ (by simp) rfl _ _ rfl rfl
    simp [Region.wanted, Oper.wp, Act.eval, go_sem, d40, g2, x0, x1, x2, x3, x4, x5, x6, hlG, hlC]
    exact hK _ _ (step_late (by decide) rfl) rfl
    | 9, _ =>
    obtain rfl := Option.some.inj ho
    intro a1 w1 K hk hK
    have d48 : a1.tmps.getD 48 undef = .pointer (some ⟨G, 0, none⟩) := hk.deps ⟨8, .data⟩ (by simp) rfl _ _ rfl rfl
    simp [Region.wanted, Oper.wp, Act.eval, go_sem, d48, g2, x0, x1, x2, x3, x4, x5, x6, hlG, hlC]
    exact hK _ _ (step_late (by decide) rfl) rfl
  · intro vs w3 hl hv
    match vs, hl with
    | [v0, v1, v2, v3, v4, v5, v6, v7, v8, v9], _ =>
    obtain rfl : v0 = .pointer (some ⟨G, 0, none⟩) := hv 0 (by omega)
    obtain rfl : v1 = .pointer (some ⟨G, 0, none⟩) := hv 1 (by omega)
    obtain rfl : v2 = .pointer (some ⟨G, 0, none⟩) := hv 2 (by omega)
    obtain rfl : v3 = .pointer (some ⟨G, 2, none⟩) := hv 3 (by omega)
    obtain rfl : v4 = .slice A cl.length c := hv 4 (by omega)
    obtain rfl : v5 = .agg #[.slice A0 n0 cc0, .bool had, .bool true, .bool false, .int .u64 (ox : Nat), .int .u64 (nx : Nat), .int .u64 (ny : Nat)] := hv 5 (by omega)
    have q6 : ∃ g, v6 = .slice (some ⟨g, 0, none⟩) 1 1 ∧ w3.heap[g]? = some (.cells #[.slice A0 n0 cc0, .bool had, .bool true, .bool false, .int .u64 (ox : Nat), .int .u64 (nx : Nat), .int .u64 (ny : Nat)] 149 (0, 0)) ∧ some g ≠ (Value.slice A cl.length c).ownBlock := hv 6 (by omega)
    have q7 : ∃ wa, Below wB.heap.size wB wa ∧ World.grownBy wa w3 (Value.slice A cl.length c).ownBlock ∧ OwnX (PtNew wB) W w3 v7 (cl ++ [⟨p, had, true, false, ox, nx, ny⟩]) := hv 7 (by omega)
    obtain rfl : v8 = .pointer (some ⟨G, 0, none⟩) := hv 8 (by omega)
    obtain rfl : v9 = .pointer (some ⟨G, 2, none⟩) := hv 9 (by omega)
    clear hv
    simp only [putAll, List.take_succ_cons, List.take_zero, List.drop_succ_cons, List.drop_zero, Act.put, List.setIfInBounds_toArray, List.set_cons_succ, List.set_cons_zero]
    obtain ⟨wa, hwa, hgr, hown7⟩ := q7
    obtain ⟨g, rfl, _, _⟩ := q6
    have h9a := (HOw.out.mono fun u p h => h.below hwa : OwnX (PtNew wa) W wB (.slice A cl.length c) cl).below hwa
    obtain ⟨hG4, hI4, hkm4⟩ := InvM.push (v' := v7) HWG.out ((hwa.block _ (lt_of_block HGb.out)).trans HGb.out) h9a (HBw.out.trans (hwa.mono HBw.out.size)) (hown7.mono fun u p h => h.below hwa) hgr
    have bCa := (hwa.block _ (lt_of_block HC.out.1)).trans HC.out.1
    have bC3 := (hgr.block C (lt_of_block bCa) (fun e => HC.out.2 C e.symm rfl)).trans bCa
    have hCG : C ≠ G := ne_type bC3 hG4 (by decide)
    have bC4 := (heap_setCell_other w3 ⟨G, 2, none⟩ C v7 hCG).trans bC3
    have HI4 := Lib.hid hI4
    have HKM := Lib.hid ((Km.of HBB.out).trans ((Km.of hwa).trans hkm4))
    have HR4 := Lib.hid (hkm4.keep _ _ _ _ ((hwa.block _ (lt_of_block HRB.out)).trans HRB.out) (by decide))
    have k2 : w3.cell? ⟨G, 2, none⟩ = some (.slice A cl.length c) := by simp [World.cell?, hG4]
    have kf : w3.frozen? ⟨G, 2, none⟩ = false := by simp [World.frozen?, hG4]
    have hlG3 := lt_of_block hG4
    obtain ⟨A7, n7, c7, rfl⟩ : ∃ A n c, v7 = .slice A n c := let ⟨A, c, h⟩ := hown7.shape; ⟨A, _, c, h⟩
    clear hwa hgr hown7 h9a hI4 hkm4 bCa bC3 hG4 x0 x1 x2 x3 x4 x5 x6 hlC g2 hlG hCG
    go_wp2_with fail
    generalize w3.setCell ⟨G, 2, none⟩ (.slice A7 n7 c7) = wD at *
    obtain ⟨A8, c8, hown8, hblk8, y0, y1, y2, yf⟩ := HI4.out.cells
    have hlG4 := lt_of_block hblk8
    obtain ⟨z0, z1, z2, z3, z4, z5, z6⟩ := cells7_of bC4
    have hlC4 := lt_of_block bC4
    clear hown8 hblk8 y0 y2 yf k2 kf hlG3 bC4
    refine wp_region_vals 6 [fun z9 _ => z9 = .pointer (some ⟨G, 0, none⟩),
      fun z9 _ => z9 = .pointer (some ⟨G, 0, none⟩),
      fun z9 _ => z9 = .pointer (some ⟨G, 1, none⟩),
      fun z9 _ => z9 = .func (.func f) #[] #[],
      fun z9 _ => z9 = .agg #[.slice A0 n0 cc0, .bool had, .bool true, .bool false, .int .u64 (ox : Nat), .int .u64 (nx : Nat), .int .u64 (ny : Nat)],
      fun v9 w9 => v9 = valV x]
      (by kernel_rfl) (by kernel_rfl) (by kernel_rfl) (by kernel_rfl) ?_ ?_ ?_
    · intro V hV v w1 w2 h hb
      simp only [List.mem_cons, List.not_mem_nil, or_false] at hV
      rcases hV with rfl | rfl | rfl | rfl | rfl | rfl
      all_goals first | exact h | (exact h)
    · intro iq oq hiq hoq
      match iq, hiq with
      | 0, _ =>
      obtain rfl := Option.some.inj hoq
      intro a1 w1 K hk hK
      have e0 : a1.tmps.getD 0 undef = .pointer (some ⟨G, 0, none⟩) := hk.same 0 (by simp)
      simp [Region.wanted, Oper.wp, Act.eval, go_sem, e0, y1, z0, z1, z2, z3, z4, z5, z6, hlG4, hlC4]
      exact hK _ _ (Below.refl _ _) rfl
      | 1, _ =>
      obtain rfl := Option.some.inj hoq
      intro a1 w1 K hk hK
      have d50 : a1.tmps.getD 50 undef = .pointer (some ⟨G, 0, none⟩) := hk.deps ⟨0, .data⟩ (by simp) rfl _ _ rfl rfl
      simp [Region.wanted, Oper.wp, Act.eval, go_sem, d50, y1, z0, z1, z2, z3, z4, z5, z6, hlG4, hlC4]
      exact hK _ _ (Below.refl _ _) rfl
      | 2, _ =>
      obtain rfl := Option.some.inj hoq
      intro a1 w1 K hk hK
      have d51 : a1.tmps.getD 51 undef = .pointer (some ⟨G, 0, none⟩) := hk.deps ⟨1, .data⟩ (by simp) rfl _ _ rfl rfl
      simp [Region.wanted, Oper.wp, Act.eval, go_sem, d51, y1, z0, z1, z2, z3, z4, z5, z6, hlG4, hlC4]
      exact hK _ _ (Below.refl _ _) rfl
      | 3, _ =>
      obtain rfl := Option.some.inj hoq
      intro a1 w1 K hk hK
      have d52 : a1.tmps.getD 52 undef = .pointer (some ⟨G, 1, none⟩) := hk.deps ⟨2, .data⟩ (by simp) rfl _ _ rfl rfl
      have c0 : w1.cell? ⟨G, 1, none⟩ = some (.func (.func f) #[] #[]) := Below.keeps hk.ext _ _ (by simp [go_sem, y1, z0, z1, z2, z3, z4, z5, z6, hlG4, hlC4])
      have c1 : w1.cell? ⟨C, 0, none⟩ = some (.slice A0 n0 cc0) := Below.keeps hk.ext _ _ (by simp [go_sem, y1, z0, z1, z2, z3, z4, z5, z6, hlG4, hlC4])
      have c2 : w1.cell? ⟨C, 1, none⟩ = some (.bool had) := Below.keeps hk.ext _ _ (by simp [go_sem, y1, z0, z1, z2, z3, z4, z5, z6, hlG4, hlC4])
      have c3 : w1.cell? ⟨C, 2, none⟩ = some (.bool true) := Below.keeps hk.ext _ _ (by simp [go_sem, y1, z0, z1, z2, z3, z4, z5, z6, hlG4, hlC4])
      have c4 : w1.cell? ⟨C, 3, none⟩ = some (.bool false) := Below.keeps hk.ext _ _ (by simp [go_sem, y1, z0, z1, z2, z3, z4, z5, z6, hlG4, hlC4])
      have c5 : w1.cell? ⟨C, 4, none⟩ = some (.int .u64 (ox : Nat)) := Below.keeps hk.ext _ _ (by simp [go_sem, y1, z0, z1, z2, z3, z4, z5, z6, hlG4, hlC4])
      have c6 : w1.cell? ⟨C, 5, none⟩ = some (.int .u64 (nx : Nat)) := Below.keeps hk.ext _ _ (by simp [go_sem, y1, z0, z1, z2, z3, z4, z5, z6, hlG4, hlC4])
      have c7 : w1.cell? ⟨C, 6, none⟩ = some (.int .u64 (ny : Nat)) := Below.keeps hk.ext _ _ (by simp [go_sem, y1, z0, z1, z2, z3, z4, z5, z6, hlG4, hlC4])
      simp [Region.wanted, Oper.wp, Act.eval, go_sem, d52, c0, c1, c2, c3, c4, c5, c6, c7, y1, z0, z1, z2, z3, z4, z5, z6, hlG4, hlC4]
      exact hK _ _ (Below.refl _ _) rfl
      | 4, _ =>
      obtain rfl := Option.some.inj hoq
      intro a1 w1 K hk hK
      have e7 : a1.tmps.getD 7 undef = .pointer (some ⟨C, 0, none⟩) := hk.same 7 (by simp)
      have c0 : w1.cell? ⟨G, 1, none⟩ = some (.func (.func f) #[] #[]) := Below.keeps hk.ext _ _ (by simp [go_sem, y1, z0, z1, z2, z3, z4, z5, z6, hlG4, hlC4])
      have c1 : w1.cell? ⟨C, 0, none⟩ = some (.slice A0 n0 cc0) := Below.keeps hk.ext _ _ (by simp [go_sem, y1, z0, z1, z2, z3, z4, z5, z6, hlG4, hlC4])
      have c2 : w1.cell? ⟨C, 1, none⟩ = some (.bool had) := Below.keeps hk.ext _ _ (by simp [go_sem, y1, z0, z1, z2, z3, z4, z5, z6, hlG4, hlC4])
      have c3 : w1.cell? ⟨C, 2, none⟩ = some (.bool true) := Below.keeps hk.ext _ _ (by simp [go_sem, y1, z0, z1, z2, z3, z4, z5, z6, hlG4, hlC4])
      have c4 : w1.cell? ⟨C, 3, none⟩ = some (.bool false) := Below.keeps hk.ext _ _ (by simp [go_sem, y1, z0, z1, z2, z3, z4, z5, z6, hlG4, hlC4])
      have c5 : w1.cell? ⟨C, 4, none⟩ = some (.int .u64 (ox : Nat)) := Below.keeps hk.ext _ _ (by simp [go_sem, y1, z0, z1, z2, z3, z4, z5, z6, hlG4, hlC4])
      have c6 : w1.cell? ⟨C, 5, none⟩ = some (.int .u64 (nx : Nat)) := Below.keeps hk.ext _ _ (by simp [go_sem, y1, z0, z1, z2, z3, z4, z5, z6, hlG4, hlC4])
      have c7 : w1.cell? ⟨C, 6, none⟩ = some (.int .u64 (ny : Nat)) := Below.keeps hk.ext _ _ (by simp [go_sem, y1, z0, z1, z2, z3, z4, z5, z6, hlG4, hlC4])
      simp [Region.wanted, Oper.wp, Act.eval, go_sem, e7, c0, c1, c2, c3, c4, c5, c6, c7, y1, z0, z1, z2, z3, z4, z5, z6, hlG4, hlC4]
      exact hK _ _ (Below.refl _ _) rfl
      | 5, _ =>
      obtain rfl := Option.some.inj hoq
      intro a1 w1 K hk hK
      have d53 : a1.tmps.getD 53 undef = .func (.func f) #[] #[] := hk.deps ⟨3, .data⟩ (by simp) rfl _ _ rfl rfl
      have d54 : a1.tmps.getD 54 undef = .agg #[.slice A0 n0 cc0, .bool had, .bool true, .bool false, .int .u64 (ox : Nat), .int .u64 (nx : Nat), .int .u64 (ny : Nat)] := hk.deps ⟨4, .data⟩ (by simp) rfl _ _ rfl rfl
      have D53x : a1.tmps[53]?.getD undef = .func (.func f) #[] #[] := by rw [← d53]; simp
      simp [Region.wanted, Oper.wp, Act.eval, go_sem, d53, D53x, d54, hent]
      refine (HPK.out w1).mono ?_
      rintro e w9 ⟨rfl, hb9⟩
      exact hK _ _ hb9 rfl
    · intro vs w3 hl hb3 hv
      match vs, hl with
      | [v0, v1, v2, v3, v4, v5], _ =>
      obtain rfl : v0 = .pointer (some ⟨G, 0, none⟩) := hv 0 (by omega)
      obtain rfl : v1 = .pointer (some ⟨G, 0, none⟩) := hv 1 (by omega)
      obtain rfl : v2 = .pointer (some ⟨G, 1, none⟩) := hv 2 (by omega)
      obtain rfl : v3 = .func (.func f) #[] #[] := hv 3 (by omega)
      obtain rfl : v4 = .agg #[.slice A0 n0 cc0, .bool had, .bool true, .bool false, .int .u64 (ox : Nat), .int .u64 (nx : Nat), .int .u64 (ny : Nat)] := hv 4 (by omega)
      have q5 : v5 = valV x := hv 5 (by omega)
      clear hv
      simp only [putAll, List.take_succ_cons, List.take_zero, List.drop_succ_cons, List.drop_zero, Act.put, List.setIfInBounds_toArray, List.set_cons_succ, List.set_cons_zero]
      have hb5 : Below wD.heap.size wD w3 := by first | exact hb3 | exact below_trans (by repeat (first | exact Below.refl _ _ | (refine Below.drew ?_) | (refine below_drewN' ?_ _) | (refine below_alloc' ?_ _) | (refine Below.setCell ?_ (by first | exact Nat.le_refl _ | (simp; done) | (simp; omega)) _))) hb3
      have HI5 := Lib.hid (HI4.out.below hb5)
      have HK5 := Lib.hid (HKM.out.trans (Km.of hb5))
      have hR5 := (hb5.block _ (lt_of_block HR4.out)).trans HR4.out
      have HR5 := Lib.hid hR5
      have r0 : w3.cell? ⟨R, 0, none⟩ = some (.bool false) := by simp [World.cell?, hR5]
      have r1 : w3.cell? ⟨R, 1, none⟩ = some (.int .u64 0) := by simp [World.cell?, hR5]
      have rf : ∀ i, w3.frozen? ⟨R, i, none⟩ = false := fun i => by simp [World.frozen?, hR5]
      have hrl := lt_of_block hR5
      rw [q5]
      unfold valV
      clear hb3 hb5 hR5 y1 z0 z1 z2 z3 z4 z5 z6 hlG4 hlC4 q5
      go_wp2_with fail
      refine bodyPost_ret (v := .agg #[.bool x.isSome, .int .u64 ((x.getD 0 : Nat) : Int)]) (by simp [results, Tryz.results246, go_sem, r0, r1, rf, hrl]) rfl ⟨rfl, ?_, ?_⟩
      · have e1 := three_setCell (k := 0) (u := .bool x.isSome) HR5.out
        exact (HI5.out.setNew HR5.out (by decide) (by decide) (by decide) (by have := HRX.out; have := HIW.out; omega)).setNew e1 (by decide) (by decide) (by decide) (by have := HRX.out; have := HIW.out; omega)
      · exact (HK5.out.setNew HRX.out).setNew HRX.out

set_option maxRecDepth 100000 in
set_option maxHeartbeats 4000000 in
theorem both_ft (W w : World) (G k : Nat) (f : FuncId) (g : Clh → Option Nat) (cl : List Clh) (p : List Nat) (A0 A1 : Option Addr) (n0 cc0 n1 cc1 : Nat) (had hady : Bool) (ox nx oy ny : Nat) (hP : PickOk f g) (hi : InvM W G k (.func (.func f) #[] #[]) cl w) (hu : PtNew w (.slice A0 n0 cc0) p) (hcl : cl.length ≤ 1000)
    (hok : ClOk ⟨p, had, false, true, ox, nx, ny⟩) :
    Calls Tryz.prog 246 #[.pointer (some ⟨G, 0, none⟩), .agg #[.slice A0 n0 cc0, .bool had, .bool false, .int .u64 (ox : Nat), .int .u64 (nx : Nat)], .agg #[.slice A1 n1 cc1, .bool hady, .bool true, .int .u64 (oy : Nat), .int .u64 (ny : Nat)]] w fun e w' => BothP W w G k (.func (.func f) #[] #[]) (g ⟨p, had, false, true, ox, nx, ny⟩) (cl ++ [⟨p, had, false, true, ox, nx, ny⟩]) e w' := by
  have HPK := Lib.hid (fun w => hP.run w A0 n0 cc0 ⟨p, had, false, true, ox, nx, ny⟩ hok)
  have HLen := Lib.hid hcl
  have hent := fun args w => hP.ent args w
  have HI0 := Lib.hid hi
  have HU0 := Lib.hid hu
  obtain ⟨x, hx⟩ : ∃ x, g ⟨p, had, false, true, ox, nx, ny⟩ = x := ⟨_, rfl⟩
  rw [hx] at HPK ⊢
  clear hP hok hi hu hcl hx
  go_enter Tryz.func246, Tryz.ntmps246
  iterate 20 go_step
  obtain ⟨bX, bY, bR, hbA⟩ := alloc3 w (.cells #[.slice A0 n0 cc0, .bool had, .bool false, .int .u64 (ox : Nat), .int .u64 (nx : Nat)] 169) (.cells #[.slice A1 n1 cc1, .bool hady, .bool true, .int .u64 (oy : Nat), .int .u64 (ny : Nat)] 169) (.cells #[.bool false, .int .u64 0] 245)
  have HIA := Lib.hid (HI0.out.below hbA)
  have HUA := Lib.hid (HU0.out.below hbA)
  obtain ⟨X, hX⟩ : ∃ X, w.heap.size = X := ⟨_, rfl⟩
  have HRX := Lib.hid (show w.heap.size ≤ X + 1 + 1 by omega)
  have HBA := Lib.hid hbA
  have HIW := Lib.hid (show W.heap.size ≤ w.heap.size from HI0.out.bel.size)
  have hG := HI0.out.lt
  rw [hX] at bX bY bR hG ⊢
  generalize ((w.alloc (.cells #[.slice A0 n0 cc0, .bool had, .bool false, .int .u64 (ox : Nat), .int .u64 (nx : Nat)] 169)).alloc (.cells #[.slice A1 n1 cc1, .bool hady, .bool true, .int .u64 (oy : Nat), .int .u64 (ny : Nat)] 169)).alloc (.cells #[.bool false, .int .u64 0] 245) = wA at *
  obtain ⟨a0, a1, a2, a3, a4⟩ := cells5_of bX
  obtain ⟨b0, b1, b2, b3, b4⟩ := cells5_of bY
  have lX := lt_of_block bX
  have lY := lt_of_block bY
  have HR := Lib.hid bR
  have HGR := Lib.hid (show X + 1 + 1 ≠ G by omega)
  obtain ⟨R, hR⟩ : ∃ R, X + 1 + 1 = R := ⟨_, rfl⟩
  rw [hR] at HR HGR HRX ⊢
  clear bX bY bR hbA hX hG hR
  go_wp2_with fail
  have hbB : Below wA.heap.size wA (wA.alloc (.cells #[.slice A0 n0 cc0, .bool had, .bool false, .bool true, .int .u64 (ox : Nat), .int .u64 (nx : Nat), .int .u64 (ny : Nat)] 149)) := (by repeat (first | exact Below.refl _ _ | (refine Below.drew ?_) | (refine below_drewN' ?_ _) | (refine below_alloc' ?_ _) | (refine Below.setCell ?_ (by first | exact Nat.le_refl _ | (simp; done) | (simp; omega)) _)))
  have HUB := Lib.hid (HUA.out.below hbB)
  have HIB := Lib.hid (HIA.out.below hbB)
  have bC := heap_alloc_new wA (.cells #[.slice A0 n0 cc0, .bool had, .bool false, .bool true, .int .u64 (ox : Nat), .int .u64 (nx : Nat), .int .u64 (ny : Nat)] 149 (0, 0))
  have HRB := Lib.hid ((hbB.block _ (lt_of_block HR.out)).trans HR.out)
  have HBB := Lib.hid (HBA.out.trans (hbB.mono HBA.out.size))
  obtain ⟨A, c, hown, hblk, g0, g1, g2, gf⟩ := HIA.out.cells
  have hCne : ∀ q, (Value.slice A cl.length c).ownBlock = some q → q ≠ wA.heap.size := fun q hq => by have := lt_of_block (hown.block q hq).2.choose_spec; omega
  have hownB : OwnX (PtNew (wA.alloc (.cells #[.slice A0 n0 cc0, .bool had, .bool false, .bool true, .int .u64 (ox : Nat), .int .u64 (nx : Nat), .int .u64 (ny : Nat)] 149))) W (wA.alloc (.cells #[.slice A0 n0 cc0, .bool had, .bool false, .bool true, .int .u64 (ox : Nat), .int .u64 (nx : Nat), .int .u64 (ny : Nat)] 149)) (.slice A cl.length c) cl := (hown.mono fun u p h => h.below hbB).below hbB
  have hblkB := (hbB.block _ (lt_of_block hblk)).trans hblk
  clear hown hblk g0 g1 g2 gf a0 a1 a2 a3 a4 b0 b1 b2 b3 b4 lX lY HIA HUA HR HBA
  obtain ⟨C, hC⟩ : ∃ C, wA.heap.size = C := ⟨_, rfl⟩
  rw [hC] at bC hCne ⊢
  generalize wA.alloc (.cells #[.slice A0 n0 cc0, .bool had, .bool false, .bool true, .int .u64 (ox : Nat), .int .u64 (nx : Nat), .int .u64 (ny : Nat)] 149) = wB at *
  obtain ⟨x0, x1, x2, x3, x4, x5, x6⟩ := cells7_of bC
  have hlC := lt_of_block bC
  have HC := Lib.hid (And.intro bC hCne)
  have g2 : wB.cell? ⟨G, 2, none⟩ = some (.slice A cl.length c) := by simp [World.cell?, hblkB]
  have hlG := lt_of_block hblkB
  have HOw := Lib.hid hownB
  have HPu := Lib.hid HUB.out
  have HBw := Lib.hid HIB.out.bel
  have HGb := Lib.hid hblkB
  have HWG := Lib.hid (show W.heap.size ≤ G from let ⟨_, _, _, _, h⟩ := HIB.out; h)
  clear bC hCne hC hbB hownB hblkB
  refine wp_region_late 7 (fun q => decide (q = 0) || decide (q = 8) || decide (q = 9)) (fun w w' => World.grownBy w w' (Value.slice A cl.length c).ownBlock) 10 [fun z9 _ => z9 = .pointer (some ⟨G, 0, none⟩),
    fun z9 _ => z9 = .pointer (some ⟨G, 0, none⟩),
    fun z9 _ => z9 = .pointer (some ⟨G, 0, none⟩),
    fun z9 _ => z9 = .pointer (some ⟨G, 2, none⟩),
    fun z9 _ => z9 = .slice A cl.length c,
    fun z9 _ => z9 = .agg #[.slice A0 n0 cc0, .bool had, .bool false, .bool true, .int .u64 (ox : Nat), .int .u64 (nx : Nat), .int .u64 (ny : Nat)],
    fun v9 w9 => ∃ g, v9 = .slice (some ⟨g, 0, none⟩) 1 1 ∧ w9.heap[g]? = some (.cells #[.slice A0 n0 cc0, .bool had, .bool false, .bool true, .int .u64 (ox : Nat), .int .u64 (nx : Nat), .int .u64 (ny : Nat)] 149 (0, 0)) ∧ some g ≠ (Value.slice A cl.length c).ownBlock,
    fun v9 w9 => ∃ wa, Below wB.heap.size wB wa ∧ World.grownBy wa w9 (Value.slice A cl.length c).ownBlock ∧ OwnX (PtNew wB) W w9 v9 (cl ++ [⟨p, had, false, true, ox, nx, ny⟩]),
    fun z9 _ => z9 = .pointer (some ⟨G, 0, none⟩),
    fun z9 _ => z9 = .pointer (some ⟨G, 2, none⟩)]
    (by kernel_rfl) (by kernel_rfl) (by kernel_rfl) (by kernel_rfl) ?_ ?_ (by kernel_rfl) rfl ?_ ?_
  · intro i V hne hi v w1 w2 h hb
    match i, hne, hi with
    | 0, _, hi => obtain rfl := Option.some.inj hi; exact h
    | 1, _, hi => obtain rfl := Option.some.inj hi; exact h
    | 2, _, hi => obtain rfl := Option.some.inj hi; exact h
    | 3, _, hi => obtain rfl := Option.some.inj hi; exact h
    | 4, _, hi => obtain rfl := Option.some.inj hi; exact h
    | 5, _, hi => obtain rfl := Option.some.inj hi; exact h
    | 6, _, hi =>
    obtain rfl := Option.some.inj hi
    first | exact h | (obtain ⟨g, h1, h2, h3⟩ := h; exact ⟨g, h1, (hb.block _ (lt_of_block h2)).trans h2, h3⟩)
    | 7, hne, _ => exact absurd rfl hne
    | 8, _, hi => obtain rfl := Option.some.inj hi; exact h
    | 9, _, hi => obtain rfl := Option.some.inj hi; exact h
    | k + 10, _, hi => simp at hi
  · intro i V hne hi v w1 w2 h hb
    match i, hne, hi with
    | 0, _, hi => obtain rfl := Option.some.inj hi; exact h
    | 1, _, hi => obtain rfl := Option.some.inj hi; exact h
    | 2, _, hi => obtain rfl := Option.some.inj hi; exact h
    | 3, _, hi => obtain rfl := Option.some.inj hi; exact h
    | 4, _, hi => obtain rfl := Option.some.inj hi; exact h
    | 5, _, hi => obtain rfl := Option.some.inj hi; exact h
    | 6, _, hi =>
    obtain rfl := Option.some.inj hi
    first | exact h | (obtain ⟨g, h1, h2, h3⟩ := h; exact ⟨g, h1, (hb.block g (lt_of_block h2) h3).trans h2, h3⟩)
    | 7, hne, _ => exact absurd rfl hne
    | 8, _, hi => obtain rfl := Option.some.inj hi; exact h
    | 9, _, hi => obtain rfl := Option.some.inj hi; exact h
    | k + 10, _, hi => simp at hi
  · intro i o hi ho
    match i, hi with
    | 0, _ =>
    obtain rfl := Option.some.inj ho
    intro a1 w1 K hk hK
    have e0 : a1.tmps.getD 0 undef = .pointer (some ⟨G, 0, none⟩) := hk.same 0 (by simp)
    simp [Region.wanted, Oper.wp, Act.eval, go_sem, e0, g2, x0, x1, x2, x3, x4, x5, x6, hlG, hlC]
    exact hK _ _ (step_late (by decide) rfl) rfl
    | 1, _ =>
    obtain rfl := Option.some.inj ho
    intro a1 w1 K hk hK
    have e0 : a1.tmps.getD 0 undef = .pointer (some ⟨G, 0, none⟩) := hk.same 0 (by simp)
    simp [Region.wanted, Oper.wp, Act.eval, go_sem, e0, g2, x0, x1, x2, x3, x4, x5, x6, hlG, hlC]
    exact hK _ _ (step_early (by decide) rfl (Below.refl _ _)) rfl
    | 2, _ =>
    obtain rfl := Option.some.inj ho
    intro a1 w1 K hk hK
    have d41 : a1.tmps.getD 41 undef = .pointer (some ⟨G, 0, none⟩) := hk.deps ⟨1, .data⟩ (by simp) rfl _ _ rfl rfl
    simp [Region.wanted, Oper.wp, Act.eval, go_sem, d41, g2, x0, x1, x2, x3, x4, x5, x6, hlG, hlC]
    exact hK _ _ (step_early (by decide) rfl (Below.refl _ _)) rfl
    | 3, _ =>
    obtain rfl := Option.some.inj ho
    intro a1 w1 K hk hK
    have d42 : a1.tmps.getD 42 undef = .pointer (some ⟨G, 0, none⟩) := hk.deps ⟨2, .data⟩ (by simp) rfl _ _ rfl rfl
    simp [Region.wanted, Oper.wp, Act.eval, go_sem, d42, g2, x0, x1, x2, x3, x4, x5, x6, hlG, hlC]
    exact hK _ _ (step_early (by decide) rfl (Below.refl _ _)) rfl
    | 4, _ =>
    obtain rfl := Option.some.inj ho
    intro a1 w1 K hk hK
    have d43 : a1.tmps.getD 43 undef = .pointer (some ⟨G, 2, none⟩) := hk.deps ⟨3, .data⟩ (by simp) rfl _ _ rfl rfl
    have c0 : w1.cell? ⟨G, 2, none⟩ = some (.slice A cl.length c) := Below.keeps (hk.ext rfl) _ _ (by simp [go_sem, g2, x0, x1, x2, x3, x4, x5, x6, hlG, hlC])
    have c1 : w1.cell? ⟨C, 0, none⟩ = some (.slice A0 n0 cc0) := Below.keeps (hk.ext rfl) _ _ (by simp [go_sem, g2, x0, x1, x2, x3, x4, x5, x6, hlG, hlC])
    have c2 : w1.cell? ⟨C, 1, none⟩ = some (.bool had) := Below.keeps (hk.ext rfl) _ _ (by simp [go_sem, g2, x0, x1, x2, x3, x4, x5, x6, hlG, hlC])
    have c3 : w1.cell? ⟨C, 2, none⟩ = some (.bool false) := Below.keeps (hk.ext rfl) _ _ (by simp [go_sem, g2, x0, x1, x2, x3, x4, x5, x6, hlG, hlC])
    have c4 : w1.cell? ⟨C, 3, none⟩ = some (.bool true) := Below.keeps (hk.ext rfl) _ _ (by simp [go_sem, g2, x0, x1, x2, x3, x4, x5, x6, hlG, hlC])
    have c5 : w1.cell? ⟨C, 4, none⟩ = some (.int .u64 (ox : Nat)) := Below.keeps (hk.ext rfl) _ _ (by simp [go_sem, g2, x0, x1, x2, x3, x4, x5, x6, hlG, hlC])
    have c6 : w1.cell? ⟨C, 5, none⟩ = some (.int .u64 (nx : Nat)) := Below.keeps (hk.ext rfl) _ _ (by simp [go_sem, g2, x0, x1, x2, x3, x4, x5, x6, hlG, hlC])
    have c7 : w1.cell? ⟨C, 6, none⟩ = some (.int .u64 (ny : Nat)) := Below.keeps (hk.ext rfl) _ _ (by simp [go_sem, g2, x0, x1, x2, x3, x4, x5, x6, hlG, hlC])
    simp [Region.wanted, Oper.wp, Act.eval, go_sem, d43, c0, c1, c2, c3, c4, c5, c6, c7, g2, x0, x1, x2, x3, x4, x5, x6, hlG, hlC]
    exact hK _ _ (step_early (by decide) rfl (Below.refl _ _)) rfl
    | 5, _ =>
    obtain rfl := Option.some.inj ho
    intro a1 w1 K hk hK
    have e7 : a1.tmps.getD 7 undef = .pointer (some ⟨C, 0, none⟩) := hk.same 7 (by simp)
    have c0 : w1.cell? ⟨G, 2, none⟩ = some (.slice A cl.length c) := Below.keeps (hk.ext rfl) _ _ (by simp [go_sem, g2, x0, x1, x2, x3, x4, x5, x6, hlG, hlC])
    have c1 : w1.cell? ⟨C, 0, none⟩ = some (.slice A0 n0 cc0) := Below.keeps (hk.ext rfl) _ _ (by simp [go_sem, g2, x0, x1, x2, x3, x4, x5, x6, hlG, hlC])
    have c2 : w1.cell? ⟨C, 1, none⟩ = some (.bool had) := Below.keeps (hk.ext rfl) _ _ (by simp [go_sem, g2, x0, x1, x2, x3, x4, x5, x6, hlG, hlC])
    have c3 : w1.cell? ⟨C, 2, none⟩ = some (.bool false) := Below.keeps (hk.ext rfl) _ _ (by simp [go_sem, g2, x0, x1, x2, x3, x4, x5, x6, hlG, hlC])
    have c4 : w1.cell? ⟨C, 3, none⟩ = some (.bool true) := Below.keeps (hk.ext rfl) _ _ (by simp [go_sem, g2, x0, x1, x2, x3, x4, x5, x6, hlG, hlC])
    have c5 : w1.cell? ⟨C, 4, none⟩ = some (.int .u64 (ox : Nat)) := Below.keeps (hk.ext rfl) _ _ (by simp [go_sem, g2, x0, x1, x2, x3, x4, x5, x6, hlG, hlC])
    have c6 : w1.cell? ⟨C, 5, none⟩ = some (.int .u64 (nx : Nat)) := Below.keeps (hk.ext rfl) _ _ (by simp [go_sem, g2, x0, x1, x2, x3, x4, x5, x6, hlG, hlC])
    have c7 : w1.cell? ⟨C, 6, none⟩ = some (.int .u64 (ny : Nat)) := Below.keeps (hk.ext rfl) _ _ (by simp [go_sem, g2, x0, x1, x2, x3, x4, x5, x6, hlG, hlC])
    simp [Region.wanted, Oper.wp, Act.eval, go_sem, e7, c0, c1, c2, c3, c4, c5, c6, c7, g2, x0, x1, x2, x3, x4, x5, x6, hlG, hlC]
    exact hK _ _ (step_early (by decide) rfl (Below.refl _ _)) rfl
    | 6, _ =>
    obtain rfl := Option.some.inj ho
    intro a1 w1 K hk hK
    have d45 : a1.tmps.getD 45 undef = .agg #[.slice A0 n0 cc0, .bool had, .bool false, .bool true, .int .u64 (ox : Nat), .int .u64 (nx : Nat), .int .u64 (ny : Nat)] := hk.deps ⟨5, .data⟩ (by simp) rfl _ _ rfl rfl
    have d45x : a1.tmps[45]?.getD undef = .agg #[.slice A0 n0 cc0, .bool had, .bool false, .bool true, .int .u64 (ox : Nat), .int .u64 (nx : Nat), .int .u64 (ny : Nat)] := by rw [← d45]; simp
    have D45x : a1.tmps[45]?.getD undef = .agg #[.slice A0 n0 cc0, .bool had, .bool false, .bool true, .int .u64 (ox : Nat), .int .u64 (nx : Nat), .int .u64 (ny : Nat)] := by rw [← d45]; simp
    simp [Region.wanted, Oper.wp, Act.eval, go_sem, d45, D45x]
    refine hK _ _ (step_early (by decide) rfl (by repeat (first | exact Below.refl _ _ | assumption | (refine Below.drew ?_) | (refine below_drewN' ?_ _) | (refine below_alloc' ?_ _)))) ⟨_, rfl, heap_alloc_new _ _, ?_⟩
    intro e
    obtain ⟨_, cur9, h1⟩ := HOw.out.block _ e.symm
    have h1 := lt_of_block h1
    have h2 := (hk.ext rfl).size
    simp at h2; omega
    | 7, _ =>
    obtain rfl := Option.some.inj ho
    intro a1 w1 K hk hK
    have d44 : a1.tmps.getD 44 undef = .slice A cl.length c := hk.deps ⟨4, .data⟩ (by simp) rfl _ _ rfl rfl
    have D46 : ∃ g, (a1.tmps.getD 46 undef) = .slice (some ⟨g, 0, none⟩) 1 1 ∧ w1.heap[g]? = some (.cells #[.slice A0 n0 cc0, .bool had, .bool false, .bool true, .int .u64 (ox : Nat), .int .u64 (nx : Nat), .int .u64 (ny : Nat)] 149 (0, 0)) ∧ some g ≠ (Value.slice A cl.length c).ownBlock := hk.deps ⟨6, .data⟩ (by simp) rfl _ _ rfl rfl
    obtain ⟨g, D46e, hg0, hgne⟩ := D46
    have hb1 : Below wB.heap.size wB w1 := below_trans (by repeat (first | exact Below.refl _ _ | assumption | (refine Below.drew ?_) | (refine below_drewN' ?_ _) | (refine below_alloc' ?_ _))) (hk.ext rfl)
    obtain ⟨v', w', hrun, r1, r2⟩ := run_append_X (Pt := PtNew wB) W w1 (fun u p h => (h.below hb1).rd) (Value.slice A cl.length c) (.slice (some ⟨g, 0, none⟩) 1 1) cl (⟨p, had, false, true, ox, nx, ny⟩ : Clh) (HOw.out.below hb1) ⟨g, 1, _, rfl, HPu.out, fun i hi => by simp only [World.cell?, hg0]; simp [clCells]⟩ (Nat.le_trans HBw.out.size hb1.size) (by have := HLen.out; omega) 63
    split
    · refine wp_append_run (s := .tmp 44) (x := .tmp 46) rfl (by rw [show a1.eval (.tmp 44) = .slice A cl.length c from d44, show a1.eval (.tmp 46) = _ from D46e]; exact hrun) (hK _ _ (step_sp r2) ⟨w1, hb1, r2, r1⟩)
    · rename_i hw0; simp [Region.wanted] at hw0
    | 8, _ =>
    obtain rfl := Option.some.inj ho
    intro a1 w1 K hk hK
    have d40 : a1.tmps.getD 40 undef = .pointer (some ⟨G, 0, none⟩) := hk.deps ⟨0, .data⟩ (by simp) rfl _ _ rfl rfl
    simp [Region.wanted, Oper.wp, Act.eval, go_sem, d40, g2, x0, x1, x2, x3, x4, x5, x6, hlG, hlC]
    exact hK _ _ (step_late (by decide) rfl) rfl
    | 9, _ =>
    obtain rfl := Option.some.inj ho
    intro a1 w1 K hk hK
    have d48 : a1.tmps.getD 48 undef = .pointer (some ⟨G, 0, none⟩) := hk.deps ⟨8, .data⟩ (by simp) rfl _ _ rfl rfl
    simp [Region.wanted, Oper.wp, Act.eval, go_sem, d48, g2, x0, x1, x2, x3, x4, x5, x6, hlG, hlC]
    exact hK _ _ (step_late (by decide) rfl) rfl
  · intro vs w3 hl hv
    match vs, hl with
    | [v0, v1, v2, v3, v4, v5, v6, v7, v8, v9], _ =>
    obtain rfl : v0 = .pointer (some ⟨G, 0, none⟩) := hv 0 (by omega)
    obtain rfl : v1 = .pointer (some ⟨G, 0, none⟩) := hv 1 (by omega)
    obtain rfl : v2 = .pointer (some ⟨G, 0, none⟩) := hv 2 (by omega)
    obtain rfl : v3 = .pointer (some ⟨G, 2, none⟩) := hv 3 (by omega)
    obtain rfl : v4 = .slice A cl.length c := hv 4 (by omega)
    obtain rfl : v5 = .agg #[.slice A0 n0 cc0, .bool had, .bool false, .bool true, .int .u64 (ox : Nat), .int .u64 (nx : Nat), .int .u64 (ny : Nat)] := hv 5 (by omega)
    have q6 : ∃ g, v6 = .slice (some ⟨g, 0, none⟩) 1 1 ∧ w3.heap[g]? = some (.cells #[.slice A0 n0 cc0, .bool had, .bool false, .bool true, .int .u64 (ox : Nat), .int .u64 (nx : Nat), .int .u64 (ny : Nat)] 149 (0, 0)) ∧ some g ≠ (Value.slice A cl.length c).ownBlock := hv 6 (by omega)
    have q7 : ∃ wa, Below wB.heap.size wB wa ∧ World.grownBy wa w3 (Value.slice A cl.length c).ownBlock ∧ OwnX (PtNew wB) W w3 v7 (cl ++ [⟨p, had, false, true, ox, nx, ny⟩]) := hv 7 (by omega)
    obtain rfl : v8 = .pointer (some ⟨G, 0, none⟩) := hv 8 (by omega)
    obtain rfl : v9 = .pointer (some ⟨G, 2, none⟩) := hv 9 (by omega)
    clear hv
    simp only [putAll, List.take_succ_cons, List.take_zero, List.drop_succ_cons, List.drop_zero, Act.put, List.setIfInBounds_toArray, List.set_cons_succ, List.set_cons_zero]
    obtain ⟨wa, hwa, hgr, hown7⟩ := q7
    obtain ⟨g, rfl, _, _⟩ := q6
    have h9a := (HOw.out.mono fun u p h => h.below hwa : OwnX (PtNew wa) W wB (.slice A cl.length c) cl).below hwa
    obtain ⟨hG4, hI4, hkm4⟩ := InvM.push (v' := v7) HWG.out ((hwa.block _ (lt_of_block HGb.out)).trans HGb.out) h9a (HBw.out.trans (hwa.mono HBw.out.size)) (hown7.mono fun u p h => h.below hwa) hgr
    have bCa := (hwa.block _ (lt_of_block HC.out.1)).trans HC.out.1
    have bC3 := (hgr.block C (lt_of_block bCa) (fun e => HC.out.2 C e.symm rfl)).trans bCa
    have hCG : C ≠ G := ne_type bC3 hG4 (by decide)
    have bC4 := (heap_setCell_other w3 ⟨G, 2, none⟩ C v7 hCG).trans bC3
    have HI4 := Lib.hid hI4
    have HKM := Lib.hid ((Km.of HBB.out).trans ((Km.of hwa).trans hkm4))
    have HR4 := Lib.hid (hkm4.keep _ _ _ _ ((hwa.block _ (lt_of_block HRB.out)).trans HRB.out) (by decide))
    have k2 : w3.cell? ⟨G, 2, none⟩ = some (.slice A cl.length c) := by simp [World.cell?, hG4]
    have kf : w3.frozen? ⟨G, 2, none⟩ = false := by simp [World.frozen?, hG4]
    have hlG3 := lt_of_block hG4
    obtain ⟨A7, n7, c7, rfl⟩ : ∃ A n c, v7 = .slice A n c := let ⟨A, c, h⟩ := hown7.shape; ⟨A, _, c, h⟩
    clear hwa hgr hown7 h9a hI4 hkm4 bCa bC3 hG4 x0 x1 x2 x3 x4 x5 x6 hlC g2 hlG hCG
    go_wp2_with fail
    generalize w3.setCell ⟨G, 2, none⟩ (.slice A7 n7 c7) = wD at *
    obtain ⟨A8, c8, hown8, hblk8, y0, y1, y2, yf⟩ := HI4.out.cells
    have hlG4 := lt_of_block hblk8
    obtain ⟨z0, z1, z2, z3, z4, z5, z6⟩ := cells7_of bC4
    have hlC4 := lt_of_block bC4
    clear hown8 hblk8 y0 y2 yf k2 kf hlG3 bC4
    refine wp_region_vals 6 [fun z9 _ => z9 = .pointer (some ⟨G, 0, none⟩),
      fun z9 _ => z9 = .pointer (some ⟨G, 0, none⟩),
      fun z9 _ => z9 = .pointer (some ⟨G, 1, none⟩),
      fun z9 _ => z9 = .func (.func f) #[] #[],
      fun z9 _ => z9 = .agg #[.slice A0 n0 cc0, .bool had, .bool false, .bool true, .int .u64 (ox : Nat), .int .u64 (nx : Nat), .int .u64 (ny : Nat)],
      fun v9 w9 => v9 = valV x]
      (by kernel_rfl) (by kernel_rfl) (by kernel_rfl) (by kernel_rfl) ?_ ?_ ?_
    · intro V hV v w1 w2 h hb
      simp only [List.mem_cons, List.not_mem_nil, or_false] at hV
      rcases hV with rfl | rfl | rfl | rfl | rfl | rfl
      all_goals first | exact h | (exact h)
    · intro iq oq hiq hoq
      match iq, hiq with
      | 0, _ =>
      obtain rfl := Option.some.inj hoq
      intro a1 w1 K hk hK
      have e0 : a1.tmps.getD 0 undef = .pointer (some ⟨G, 0, none⟩) := hk.same 0 (by simp)
      simp [Region.wanted, Oper.wp, Act.eval, go_sem, e0, y1, z0, z1, z2, z3, z4, z5, z6, hlG4, hlC4]
      exact hK _ _ (Below.refl _ _) rfl
      | 1, _ =>
      obtain rfl := Option.some.inj hoq
      intro a1 w1 K hk hK
      have d50 : a1.tmps.getD 50 undef = .pointer (some ⟨G, 0, none⟩) := hk.deps ⟨0, .data⟩ (by simp) rfl _ _ rfl rfl
      simp [Region.wanted, Oper.wp, Act.eval, go_sem, d50, y1, z0, z1, z2, z3, z4, z5, z6, hlG4, hlC4]
      exact hK _ _ (Below.refl _ _) rfl
      | 2, _ =>
      obtain rfl := Option.some.inj hoq
      intro a1 w1 K hk hK
      have d51 : a1.tmps.getD 51 undef = .pointer (some ⟨G, 0, none⟩) := hk.deps ⟨1, .data⟩ (by simp) rfl _ _ rfl rfl
      simp [Region.wanted, Oper.wp, Act.eval, go_sem, d51, y1, z0, z1, z2, z3, z4, z5, z6, hlG4, hlC4]
      exact hK _ _ (Below.refl _ _) rfl
      | 3, _ =>
      obtain rfl := Option.some.inj hoq
      intro a1 w1 K hk hK
      have d52 : a1.tmps.getD 52 undef = .pointer (some ⟨G, 1, none⟩) := hk.deps ⟨2, .data⟩ (by simp) rfl _ _ rfl rfl
      have c0 : w1.cell? ⟨G, 1, none⟩ = some (.func (.func f) #[] #[]) := Below.keeps hk.ext _ _ (by simp [go_sem, y1, z0, z1, z2, z3, z4, z5, z6, hlG4, hlC4])
      have c1 : w1.cell? ⟨C, 0, none⟩ = some (.slice A0 n0 cc0) := Below.keeps hk.ext _ _ (by simp [go_sem, y1, z0, z1, z2, z3, z4, z5, z6, hlG4, hlC4])
      have c2 : w1.cell? ⟨C, 1, none⟩ = some (.bool had) := Below.keeps hk.ext _ _ (by simp [go_sem, y1, z0, z1, z2, z3, z4, z5, z6, hlG4, hlC4])
      have c3 : w1.cell? ⟨C, 2, none⟩ = some (.bool false) := Below.keeps hk.ext _ _ (by simp [go_sem, y1, z0, z1, z2, z3, z4, z5, z6, hlG4, hlC4])
      have c4 : w1.cell? ⟨C, 3, none⟩ = some (.bool true) := Below.keeps hk.ext _ _ (by simp [go_sem, y1, z0, z1, z2, z3, z4, z5, z6, hlG4, hlC4])
      have c5 : w1.cell? ⟨C, 4, none⟩ = some (.int .u64 (ox : Nat)) := Below.keeps hk.ext _ _ (by simp [go_sem, y1, z0, z1, z2, z3, z4, z5, z6, hlG4, hlC4])
      have c6 : w1.cell? ⟨C, 5, none⟩ = some (.int .u64 (nx : Nat)) := Below.keeps hk.ext _ _ (by simp [go_sem, y1, z0, z1, z2, z3, z4, z5, z6, hlG4, hlC4])
      have c7 : w1.cell? ⟨C, 6, none⟩ = some (.int .u64 (ny : Nat)) := Below.keeps hk.ext _ _ (by simp [go_sem, y1, z0, z1, z2, z3, z4, z5, z6, hlG4, hlC4])
      simp [Region.wanted, Oper.wp, Act.eval, go_sem, d52, c0, c1, c2, c3, c4, c5, c6, c7, y1, z0, z1, z2, z3, z4, z5, z6, hlG4, hlC4]
      exact hK _ _ (Below.refl _ _) rfl
      | 4, _ =>
      obtain rfl := Option.some.inj hoq
      intro a1 w1 K hk hK
      have e7 : a1.tmps.getD 7 undef = .pointer (some ⟨C, 0, none⟩) := hk.same 7 (by simp)
      have c0 : w1.cell? ⟨G, 1, none⟩ = some (.func (.func f) #[] #[]) := Below.keeps hk.ext _ _ (by simp [go_sem, y1, z0, z1, z2, z3, z4, z5, z6, hlG4, hlC4])
      have c1 : w1.cell? ⟨C, 0, none⟩ = some (.slice A0 n0 cc0) := Below.keeps hk.ext _ _ (by simp [go_sem, y1, z0, z1, z2, z3, z4, z5, z6, hlG4, hlC4])
      have c2 : w1.cell? ⟨C, 1, none⟩ = some (.bool had) := Below.keeps hk.ext _ _ (by simp [go_sem, y1, z0, z1, z2, z3, z4, z5, z6, hlG4, hlC4])
      have c3 : w1.cell? ⟨C, 2, none⟩ = some (.bool false) := Below.keeps hk.ext _ _ (by simp [go_sem, y1, z0, z1, z2, z3, z4, z5, z6, hlG4, hlC4])
      have c4 : w1.cell? ⟨C, 3, none⟩ = some (.bool true) := Below.keeps hk.ext _ _ (by simp [go_sem, y1, z0, z1, z2, z3, z4, z5, z6, hlG4, hlC4])
      have c5 : w1.cell? ⟨C, 4, none⟩ = some (.int .u64 (ox : Nat)) := Below.keeps hk.ext _ _ (by simp [go_sem, y1, z0, z1, z2, z3, z4, z5, z6, hlG4, hlC4])
      have c6 : w1.cell? ⟨C, 5, none⟩ = some (.int .u64 (nx : Nat)) := Below.keeps hk.ext _ _ (by simp [go_sem, y1, z0, z1, z2, z3, z4, z5, z6, hlG4, hlC4])
      have c7 : w1.cell? ⟨C, 6, none⟩ = some (.int .u64 (ny : Nat)) := Below.keeps hk.ext _ _ (by simp [go_sem, y1, z0, z1, z2, z3, z4, z5, z6, hlG4, hlC4])
      simp [Region.wanted, Oper.wp, Act.eval, go_sem, e7, c0, c1, c2, c3, c4, c5, c6, c7, y1, z0, z1, z2, z3, z4, z5, z6, hlG4, hlC4]
      exact hK _ _ (Below.refl _ _) rfl
      | 5, _ =>
      obtain rfl := Option.some.inj hoq
      intro a1 w1 K hk hK
      have d53 : a1.tmps.getD 53 undef = .func (.func f) #[] #[] := hk.deps ⟨3, .data⟩ (by simp) rfl _ _ rfl rfl
      have d54 : a1.tmps.getD 54 undef = .agg #[.slice A0 n0 cc0, .bool had, .bool false, .bool true, .int .u64 (ox : Nat), .int .u64 (nx : Nat), .int .u64 (ny : Nat)] := hk.deps ⟨4, .data⟩ (by simp) rfl _ _ rfl rfl
      have D53x : a1.tmps[53]?.getD undef = .func (.func f) #[] #[] := by rw [← d53]; simp
      simp [Region.wanted, Oper.wp, Act.eval, go_sem, d53, D53x, d54, hent]
      refine (HPK.out w1).mono ?_
      rintro e w9 ⟨rfl, hb9⟩
      exact hK _ _ hb9 rfl
    · intro vs w3 hl hb3 hv
      match vs, hl with
      | [v0, v1, v2, v3, v4, v5], _ =>
      obtain rfl : v0 = .pointer (some ⟨G, 0, none⟩) := hv 0 (by omega)
      obtain rfl : v1 = .pointer (some ⟨G, 0, none⟩) := hv 1 (by omega)
      obtain rfl : v2 = .pointer (some ⟨G, 1, none⟩) := hv 2 (by omega)
      obtain rfl : v3 = .func (.func f) #[] #[] := hv 3 (by omega)
      obtain rfl : v4 = .agg #[.slice A0 n0 cc0, .bool had, .bool false, .bool true, .int .u64 (ox : Nat), .int .u64 (nx : Nat), .int .u64 (ny : Nat)] := hv 4 (by omega)
      have q5 : v5 = valV x := hv 5 (by omega)
      clear hv
      simp only [putAll, List.take_succ_cons, List.take_zero, List.drop_succ_cons, List.drop_zero, Act.put, List.setIfInBounds_toArray, List.set_cons_succ, List.set_cons_zero]
      have hb5 : Below wD.heap.size wD w3 := by first | exact hb3 | exact below_trans (by repeat (first | exact Below.refl _ _ | (refine Below.drew ?_) | (refine below_drewN' ?_ _) | (refine below_alloc' ?_ _) | (refine Below.setCell ?_ (by first | exact Nat.le_refl _ | (simp; done) | (simp; omega)) _))) hb3
      have HI5 := Lib.hid (HI4.out.below hb5)
      have HK5 := Lib.hid (HKM.out.trans (Km.of hb5))
      have hR5 := (hb5.block _ (lt_of_block HR4.out)).trans HR4.out
      have HR5 := Lib.hid hR5
      have r0 : w3.cell? ⟨R, 0, none⟩ = some (.bool false) := by simp [World.cell?, hR5]
      have r1 : w3.cell? ⟨R, 1, none⟩ = some (.int .u64 0) := by simp [World.cell?, hR5]
      have rf : ∀ i, w3.frozen? ⟨R, i, none⟩ = false := fun i => by simp [World.frozen?, hR5]
      have hrl := lt_of_block hR5
      rw [q5]
      unfold valV
      clear hb3 hb5 hR5 y1 z0 z1 z2 z3 z4 z5 z6 hlG4 hlC4 q5
      go_wp2_with fail
      refine bodyPost_ret (v := .agg #[.bool x.isSome, .int .u64 ((x.getD 0 : Nat) : Int)]) (by simp [results, Tryz.results246, go_sem, r0, r1, rf, hrl]) rfl ⟨rfl, ?_, ?_⟩
      · have e1 := three_setCell (k := 0) (u := .bool x.isSome) HR5.out
        exact (HI5.out.setNew HR5.out (by decide) (by decide) (by decide) (by have := HRX.out; have := HIW.out; omega)).setNew e1 (by decide) (by decide) (by decide) (by have := HRX.out; have := HIW.out; omega)
      · exact (HK5.out.setNew HRX.out).setNew HRX.out

set_option maxRecDepth 100000 in
set_option maxHeartbeats 4000000 in
theorem both_tt (W w : World) (G k : Nat) (f : FuncId) (g : Clh → Option Nat) (cl : List Clh) (p : List Nat) (A0 A1 : Option Addr) (n0 cc0 n1 cc1 : Nat) (had hady : Bool) (ox nx oy ny : Nat) (hP : PickOk f g) (hi : InvM W G k (.func (.func f) #[] #[]) cl w) (hu : PtNew w (.slice A0 n0 cc0) p) (hcl : cl.length ≤ 1000)
    (hok : ClOk ⟨p, had, true, true, ox, nx, ny⟩) (hne : ¬ (nx : Int) = (ny : Int)) :
    Calls Tryz.prog 246 #[.pointer (some ⟨G, 0, none⟩), .agg #[.slice A0 n0 cc0, .bool had, .bool true, .int .u64 (ox : Nat), .int .u64 (nx : Nat)], .agg #[.slice A1 n1 cc1, .bool hady, .bool true, .int .u64 (oy : Nat), .int .u64 (ny : Nat)]] w fun e w' => BothP W w G k (.func (.func f) #[] #[]) (g ⟨p, had, true, true, ox, nx, ny⟩) (cl ++ [⟨p, had, true, true, ox, nx, ny⟩]) e w' := by
  have HPK := Lib.hid (fun w => hP.run w A0 n0 cc0 ⟨p, had, true, true, ox, nx, ny⟩ hok)
  have HLen := Lib.hid hcl
  have hent := fun args w => hP.ent args w
  have HI0 := Lib.hid hi
  have HU0 := Lib.hid hu
  obtain ⟨x, hx⟩ : ∃ x, g ⟨p, had, true, true, ox, nx, ny⟩ = x := ⟨_, rfl⟩
  rw [hx] at HPK ⊢
  clear hP hok hi hu hcl hx
  go_enter Tryz.func246, Tryz.ntmps246
  iterate 20 go_step
  obtain ⟨bX, bY, bR, hbA⟩ := alloc3 w (.cells #[.slice A0 n0 cc0, .bool had, .bool true, .int .u64 (ox : Nat), .int .u64 (nx : Nat)] 169) (.cells #[.slice A1 n1 cc1, .bool hady, .bool true, .int .u64 (oy : Nat), .int .u64 (ny : Nat)] 169) (.cells #[.bool false, .int .u64 0] 245)
  have HIA := Lib.hid (HI0.out.below hbA)
  have HUA := Lib.hid (HU0.out.below hbA)
  obtain ⟨X, hX⟩ : ∃ X, w.heap.size = X := ⟨_, rfl⟩
  have HRX := Lib.hid (show w.heap.size ≤ X + 1 + 1 by omega)
  have HBA := Lib.hid hbA
  have HIW := Lib.hid (show W.heap.size ≤ w.heap.size from HI0.out.bel.size)
  have hG := HI0.out.lt
  rw [hX] at bX bY bR hG ⊢
  generalize ((w.alloc (.cells #[.slice A0 n0 cc0, .bool had, .bool true, .int .u64 (ox : Nat), .int .u64 (nx : Nat)] 169)).alloc (.cells #[.slice A1 n1 cc1, .bool hady, .bool true, .int .u64 (oy : Nat), .int .u64 (ny : Nat)] 169)).alloc (.cells #[.bool false, .int .u64 0] 245) = wA at *
  obtain ⟨a0, a1, a2, a3, a4⟩ := cells5_of bX
  obtain ⟨b0, b1, b2, b3, b4⟩ := cells5_of bY
  have lX := lt_of_block bX
  have lY := lt_of_block bY
  have HR := Lib.hid bR
  have HGR := Lib.hid (show X + 1 + 1 ≠ G by omega)
  obtain ⟨R, hR⟩ : ∃ R, X + 1 + 1 = R := ⟨_, rfl⟩
  rw [hR] at HR HGR HRX ⊢
  clear bX bY bR hbA hX hG hR
  go_wp2_with fail
  have hbB : Below wA.heap.size wA (wA.alloc (.cells #[.slice A0 n0 cc0, .bool had, .bool true, .bool true, .int .u64 (ox : Nat), .int .u64 (nx : Nat), .int .u64 (ny : Nat)] 149)) := (by repeat (first | exact Below.refl _ _ | (refine Below.drew ?_) | (refine below_drewN' ?_ _) | (refine below_alloc' ?_ _) | (refine Below.setCell ?_ (by first | exact Nat.le_refl _ | (simp; done) | (simp; omega)) _)))
  have HUB := Lib.hid (HUA.out.below hbB)
  have HIB := Lib.hid (HIA.out.below hbB)
  have bC := heap_alloc_new wA (.cells #[.slice A0 n0 cc0, .bool had, .bool true, .bool true, .int .u64 (ox : Nat), .int .u64 (nx : Nat), .int .u64 (ny : Nat)] 149 (0, 0))
  have HRB := Lib.hid ((hbB.block _ (lt_of_block HR.out)).trans HR.out)
  have HBB := Lib.hid (HBA.out.trans (hbB.mono HBA.out.size))
  obtain ⟨A, c, hown, hblk, g0, g1, g2, gf⟩ := HIA.out.cells
  have hCne : ∀ q, (Value.slice A cl.length c).ownBlock = some q → q ≠ wA.heap.size := fun q hq => by have := lt_of_block (hown.block q hq).2.choose_spec; omega
  have hownB : OwnX (PtNew (wA.alloc (.cells #[.slice A0 n0 cc0, .bool had, .bool true, .bool true, .int .u64 (ox : Nat), .int .u64 (nx : Nat), .int .u64 (ny : Nat)] 149))) W (wA.alloc (.cells #[.slice A0 n0 cc0, .bool had, .bool true, .bool true, .int .u64 (ox : Nat), .int .u64 (nx : Nat), .int .u64 (ny : Nat)] 149)) (.slice A cl.length c) cl := (hown.mono fun u p h => h.below hbB).below hbB
  have hblkB := (hbB.block _ (lt_of_block hblk)).trans hblk
  clear hown hblk g0 g1 g2 gf a0 a1 a2 a3 a4 b0 b1 b2 b3 b4 lX lY HIA HUA HR HBA
  obtain ⟨C, hC⟩ : ∃ C, wA.heap.size = C := ⟨_, rfl⟩
  rw [hC] at bC hCne ⊢
  generalize wA.alloc (.cells #[.slice A0 n0 cc0, .bool had, .bool true, .bool true, .int .u64 (ox : Nat), .int .u64 (nx : Nat), .int .u64 (ny : Nat)] 149) = wB at *
  obtain ⟨x0, x1, x2, x3, x4, x5, x6⟩ := cells7_of bC
  have hlC := lt_of_block bC
  have HC := Lib.hid (And.intro bC hCne)
  have g2 : wB.cell? ⟨G, 2, none⟩ = some (.slice A cl.length c) := by simp [World.cell?, hblkB]
  have hlG := lt_of_block hblkB
  have HOw := Lib.hid hownB
  have HPu := Lib.hid HUB.out
  have HBw := Lib.hid HIB.out.bel
  have HGb := Lib.hid hblkB
  have HWG := Lib.hid (show W.heap.size ≤ G from let ⟨_, _, _, _, h⟩ := HIB.out; h)
  clear bC hCne hC hbB hownB hblkB
  refine wp_region_late 7 (fun q => decide (q = 0) || decide (q = 8) || decide (q = 9)) (fun w w' => World.grownBy w w' (Value.slice A cl.length c).ownBlock) 10 [fun z9 _ => z9 = .pointer (some ⟨G, 0, none⟩),
    fun z9 _ => z9 = .pointer (some ⟨G, 0, none⟩),
    fun z9 _ => z9 = .pointer (some ⟨G, 0, none⟩),
    fun z9 _ => z9 = .pointer (some ⟨G, 2, none⟩),
    fun z9 _ => z9 = .slice A cl.length c,
    fun z9 _ => z9 = .agg #[.slice A0 n0 cc0, .bool had, .bool true, .bool true, .int .u64 (ox : Nat), .int .u64 (nx : Nat), .int .u64 (ny : Nat)],
    fun v9 w9 => ∃ g, v9 = .slice (some ⟨g, 0, none⟩) 1 1 ∧ w9.heap[g]? = some (.cells #[.slice A0 n0 cc0, .bool had, .bool true, .bool true, .int .u64 (ox : Nat), .int .u64 (nx : Nat), .int .u64 (ny : Nat)] 149 (0, 0)) ∧ some g ≠ (Value.slice A cl.length c).ownBlock,
    fun v9 w9 => ∃ wa, Below wB.heap.size wB wa ∧ World.grownBy wa w9 (Value.slice A cl.length c).ownBlock ∧ OwnX (PtNew wB) W w9 v9 (cl ++ [⟨p, had, true, true, ox, nx, ny⟩]),
    fun z9 _ => z9 = .pointer (some ⟨G, 0, none⟩),
    fun z9 _ => z9 = .pointer (some ⟨G, 2, none⟩)]
    (by kernel_rfl) (by kernel_rfl) (by kernel_rfl) (by kernel_rfl) ?_ ?_ (by kernel_rfl) rfl ?_ ?_
  · intro i V hne hi v w1 w2 h hb
    match i, hne, hi with
    | 0, _, hi => obtain rfl := Option.some.inj hi; exact h
    | 1, _, hi => obtain rfl := Option.some.inj hi; exact h
    | 2, _, hi => obtain rfl := Option.some.inj hi; exact h
    | 3, _, hi => obtain rfl := Option.some.inj hi; exact h
    | 4, _, hi => obtain rfl := Option.some.inj hi; exact h
    | 5, _, hi => obtain rfl := Option.some.inj hi; exact h
    | 6, _, hi =>
    obtain rfl := Option.some.inj hi
    first | exact h | (obtain ⟨g, h1, h2, h3⟩ := h; exact ⟨g, h1, (hb.block _ (lt_of_block h2)).trans h2, h3⟩)
    | 7, hne, _ => exact absurd rfl hne
    | 8, _, hi => obtain rfl := Option.some.inj hi; exact h
    | 9, _, hi => obtain rfl := Option.some.inj hi; exact h
    | k + 10, _, hi => simp at hi
  · intro i V hne hi v w1 w2 h hb
    match i, hne, hi with
    | 0, _, hi => obtain rfl := Option.some.inj hi; exact h
    | 1, _, hi => obtain rfl := Option.some.inj hi; exact h
    | 2, _, hi => obtain rfl := Option.some.inj hi; exact h
    | 3, _, hi => obtain rfl := Option.some.inj hi; exact h
    | 4, _, hi => obtain rfl := Option.some.inj hi; exact h
    | 5, _, hi => obtain rfl := Option.some.inj hi; exact h
    | 6, _, hi =>
    obtain rfl := Option.some.inj hi
    first | exact h | (obtain ⟨g, h1, h2, h3⟩ := h; exact ⟨g, h1, (hb.block g (lt_of_block h2) h3).trans h2, h3⟩)
    | 7, hne, _ => exact absurd rfl hne
    | 8, _, hi => obtain rfl := Option.some.inj hi; exact h
    | 9, _, hi => obtain rfl := Option.some.inj hi; exact h
    | k + 10, _, hi => simp at hi
  · intro i o hi ho
    match i, hi with
    | 0, _ =>
    obtain rfl := Option.some.inj ho
    intro a1 w1 K hk hK
    have e0 : a1.tmps.getD 0 undef = .pointer (some ⟨G, 0, none⟩) := hk.same 0 (by simp)
    simp [Region.wanted, Oper.wp, Act.eval, go_sem, e0, g2, x0, x1, x2, x3, x4, x5, x6, hlG, hlC]
    exact hK _ _ (step_late (by decide) rfl) rfl
    | 1, _ =>
    obtain rfl := Option.some.inj ho
    intro a1 w1 K hk hK
    have e0 : a1.tmps.getD 0 undef = .pointer (some ⟨G, 0, none⟩) := hk.same 0 (by simp)
    simp [Region.wanted, Oper.wp, Act.eval, go_sem, e0, g2, x0, x1, x2, x3, x4, x5, x6, hlG, hlC]
    exact hK _ _ (step_early (by decide) rfl (Below.refl _ _)) rfl
    | 2, _ =>
    obtain rfl := Option.some.inj ho
    intro a1 w1 K hk hK
    have d41 : a1.tmps.getD 41 undef = .pointer (some ⟨G, 0, none⟩) := hk.deps ⟨1, .data⟩ (by simp) rfl _ _ rfl rfl
    simp [Region.wanted, Oper.wp, Act.eval, go_sem, d41, g2, x0, x1, x2, x3, x4, x5, x6, hlG, hlC]
    exact hK _ _ (step_early (by decide) rfl (Below.refl _ _)) rfl
    | 3, _ =>
    obtain rfl := Option.some.inj ho
    intro a1 w1 K hk hK
    have d42 : a1.tmps.getD 42 undef = .pointer (some ⟨G, 0, none⟩) := hk.deps ⟨2, .data⟩ (by simp) rfl _ _ rfl rfl
    simp [Region.wanted, Oper.wp, Act.eval, go_sem, d42, g2, x0, x1, x2, x3, x4, x5, x6, hlG, hlC]
    exact hK _ _ (step_early (by decide) rfl (Below.refl _ _)) rfl
    | 4, _ =>
    obtain rfl := Option.some.inj ho
    intro a1 w1 K hk hK
    have d43 : a1.tmps.getD 43 undef = .pointer (some ⟨G, 2, none⟩) := hk.deps ⟨3, .data⟩ (by simp) rfl _ _ rfl rfl
    have c0 : w1.cell? ⟨G, 2, none⟩ = some (.slice A cl.length c) := Below.keeps (hk.ext rfl) _ _ (by simp [go_sem, g2, x0, x1, x2, x3, x4, x5, x6, hlG, hlC])
    have c1 : w1.cell? ⟨C, 0, none⟩ = some (.slice A0 n0 cc0) := Below.keeps (hk.ext rfl) _ _ (by simp [go_sem, g2, x0, x1, x2, x3, x4, x5, x6, hlG, hlC])
    have c2 : w1.cell? ⟨C, 1, none⟩ = some (.bool had) := Below.keeps (hk.ext rfl) _ _ (by simp [go_sem, g2, x0, x1, x2, x3, x4, x5, x6, hlG, hlC])
    have c3 : w1.cell? ⟨C, 2, none⟩ = some (.bool true) := Below.keeps (hk.ext rfl) _ _ (by simp [go_sem, g2, x0, x1, x2, x3, x4, x5, x6, hlG, hlC])
    have c4 : w1.cell? ⟨C, 3, none⟩ = some (.bool true) := Below.keeps (hk.ext rfl) _ _ (by simp [go_sem, g2, x0, x1, x2, x3, x4, x5, x6, hlG, hlC])
    have c5 : w1.cell? ⟨C, 4, none⟩ = some (.int .u64 (ox : Nat)) := Below.keeps (hk.ext rfl) _ _ (by simp [go_sem, g2, x0, x1, x2, x3, x4, x5, x6, hlG, hlC])
    have c6 : w1.cell? ⟨C, 5, none⟩ = some (.int .u64 (nx : Nat)) := Below.keeps (hk.ext rfl) _ _ (by simp [go_sem, g2, x0, x1, x2, x3, x4, x5, x6, hlG, hlC])
    have c7 : w1.cell? ⟨C, 6, none⟩ = some (.int .u64 (ny : Nat)) := Below.keeps (hk.ext rfl) _ _ (by simp [go_sem, g2, x0, x1, x2, x3, x4, x5, x6, hlG, hlC])
    simp [Region.wanted, Oper.wp, Act.eval, go_sem, d43, c0, c1, c2, c3, c4, c5, c6, c7, g2, x0, x1, x2, x3, x4, x5, x6, hlG, hlC]
    exact hK _ _ (step_early (by decide) rfl (Below.refl _ _)) rfl
    | 5, _ =>
    obtain rfl := Option.some.inj ho
    intro a1 w1 K hk hK
    have e7 : a1.tmps.getD 7 undef = .pointer (some ⟨C, 0, none⟩) := hk.same 7 (by simp)
    have c0 : w1.cell? ⟨G, 2, none⟩ = some (.slice A cl.length c) := Below.keeps (hk.ext rfl) _ _ (by simp [go_sem, g2, x0, x1, x2, x3, x4, x5, x6, hlG, hlC])
    have c1 : w1.cell? ⟨C, 0, none⟩ = some (.slice A0 n0 cc0) := Below.keeps (hk.ext rfl) _ _ (by simp [go_sem, g2, x0, x1, x2, x3, x4, x5, x6, hlG, hlC])
    have c2 : w1.cell? ⟨C, 1, none⟩ = some (.bool had) := Below.keeps (hk.ext rfl) _ _ (by simp [go_sem, g2, x0, x1, x2, x3, x4, x5, x6, hlG, hlC])
    have c3 : w1.cell? ⟨C, 2, none⟩ = some (.bool true) := Below.keeps (hk.ext rfl) _ _ (by simp [go_sem, g2, x0, x1, x2, x3, x4, x5, x6, hlG, hlC])
    have c4 : w1.cell? ⟨C, 3, none⟩ = some (.bool true) := Below.keeps (hk.ext rfl) _ _ (by simp [go_sem, g2, x0, x1, x2, x3, x4, x5, x6, hlG, hlC])
    have c5 : w1.cell? ⟨C, 4, none⟩ = some (.int .u64 (ox : Nat)) := Below.keeps (hk.ext rfl) _ _ (by simp [go_sem, g2, x0, x1, x2, x3, x4, x5, x6, hlG, hlC])
    have c6 : w1.cell? ⟨C, 5, none⟩ = some (.int .u64 (nx : Nat)) := Below.keeps (hk.ext rfl) _ _ (by simp [go_sem, g2, x0, x1, x2, x3, x4, x5, x6, hlG, hlC])
    have c7 : w1.cell? ⟨C, 6, none⟩ = some (.int .u64 (ny : Nat)) := Below.keeps (hk.ext rfl) _ _ (by simp [go_sem, g2, x0, x1, x2, x3, x4, x5, x6, hlG, hlC])
    simp [Region.wanted, Oper.wp, Act.eval, go_sem, e7, c0, c1, c2, c3, c4, c5, c6, c7, g2, x0, x1, x2, x3, x4, x5, x6, hlG, hlC]
    exact hK _ _ (step_early (by decide) rfl (Below.refl _ _)) rfl
    | 6, _ =>
    obtain rfl := Option.some.inj ho
    intro a1 w1 K hk hK
    have d45 : a1.tmps.getD 45 undef = .agg #[.slice A0 n0 cc0, .bool had, .bool true, .bool true, .int .u64 (ox : Nat), .int .u64 (nx : Nat), .int .u64 (ny : Nat)] := hk.deps ⟨5, .data⟩ (by simp) rfl _ _ rfl rfl
    have d45x : a1.tmps[45]?.getD undef = .agg #[.slice A0 n0 cc0, .bool had, .bool true, .bool true, .int .u64 (ox : Nat), .int .u64 (nx : Nat), .int .u64 (ny : Nat)] := by rw [← d45]; simp
    have D45x : a1.tmps[45]?.getD undef = .agg #[.slice A0 n0 cc0, .bool had, .bool true, .bool true, .int .u64 (ox : Nat), .int .u64 (nx : Nat), .int .u64 (ny : Nat)] := by rw [← d45]; simp
    simp [Region.wanted, Oper.wp, Act.eval, go_sem, d45, D45x]
    refine hK _ _ (step_early (by decide) rfl (by repeat (first | exact Below.refl _ _ | assumption | (refine Below.drew ?_) | (refine below_drewN' ?_ _) | (refine below_alloc' ?_ _)))) ⟨_, rfl, heap_alloc_new _ _, ?_⟩
    intro e
    obtain ⟨_, cur9, h1⟩ := HOw.out.block _ e.symm
    have h1 := lt_of_block h1
    have h2 := (hk.ext rfl).size
    simp at h2; omega
    | 7, _ =>
    obtain rfl := Option.some.inj ho
    intro a1 w1 K hk hK
    have d44 : a1.tmps.getD 44 undef = .slice A cl.length c := hk.deps ⟨4, .data⟩ (by simp) rfl _ _ rfl rfl
    have D46 : ∃ g, (a1.tmps.getD 46 undef) = .slice (some ⟨g, 0, none⟩) 1 1 ∧ w1.heap[g]? = some (.cells #[.slice A0 n0 cc0, .bool had, .bool true, .bool true, .int .u64 (ox : Nat), .int .u64 (nx : Nat), .int .u64 (ny : Nat)] 149 (0, 0)) ∧ some g ≠ (Value.slice A cl.length c).ownBlock := hk.deps ⟨6, .data⟩ (by simp) rfl _ _ rfl rfl
    obtain ⟨g, D46e, hg0, hgne⟩ := D46
    have hb1 : Below wB.heap.size wB w1 := below_trans (by repeat (first | exact Below.refl _ _ | assumption | (refine Below.drew ?_) | (refine below_drewN' ?_ _) | (refine below_alloc' ?_ _))) (hk.ext rfl)
    obtain ⟨v', w', hrun, r1, r2⟩ := run_append_X (Pt := PtNew wB) W w1 (fun u p h => (h.below hb1).rd) (Value.slice A cl.length c) (.slice (some ⟨g, 0, none⟩) 1 1) cl (⟨p, had, true, true, ox, nx, ny⟩ : Clh) (HOw.out.below hb1) ⟨g, 1, _, rfl, HPu.out, fun i hi => by simp only [World.cell?, hg0]; simp [clCells]⟩ (Nat.le_trans HBw.out.size hb1.size) (by have := HLen.out; omega) 63
    split
    · refine wp_append_run (s := .tmp 44) (x := .tmp 46) rfl (by rw [show a1.eval (.tmp 44) = .slice A cl.length c from d44, show a1.eval (.tmp 46) = _ from D46e]; exact hrun) (hK _ _ (step_sp r2) ⟨w1, hb1, r2, r1⟩)
    · rename_i hw0; simp [Region.wanted] at hw0
    | 8, _ =>
    obtain rfl := Option.some.inj ho
    intro a1 w1 K hk hK
    have d40 : a1.tmps.getD 40 undef = .pointer (some ⟨G, 0, none⟩) := hk.deps ⟨0, .data⟩ (by simp) rfl _ _ rfl rfl
    simp [Region.wanted, Oper.wp, Act.eval, go_sem, d40, g2, x0, x1, x2, x3, x4, x5, x6, hlG, hlC]
    exact hK _ _ (step_late (by decide) rfl) rfl
    | 9, _ =>
    obtain rfl := Option.some.inj ho
    intro a1 w1 K hk hK
    have d48 : a1.tmps.getD 48 undef = .pointer (some ⟨G, 0, none⟩) := hk.deps ⟨8, .data⟩ (by simp) rfl _ _ rfl rfl
    simp [Region.wanted, Oper.wp, Act.eval, go_sem, d48, g2, x0, x1, x2, x3, x4, x5, x6, hlG, hlC]
    exact hK _ _ (step_late (by decide) rfl) rfl
  · intro vs w3 hl hv
    match vs, hl with
    | [v0, v1, v2, v3, v4, v5, v6, v7, v8, v9], _ =>
    obtain rfl : v0 = .pointer (some ⟨G, 0, none⟩) := hv 0 (by omega)
    obtain rfl : v1 = .pointer (some ⟨G, 0, none⟩) := hv 1 (by omega)
    obtain rfl : v2 = .pointer (some ⟨G, 0, none⟩) := hv 2 (by omega)
    obtain rfl : v3 = .pointer (some ⟨G, 2, none⟩) := hv 3 (by omega)
    obtain rfl : v4 = .slice A cl.length c := hv 4 (by omega)
    obtain rfl : v5 = .agg #[.slice A0 n0 cc0, .bool had, .bool true, .bool true, .int .u64 (ox : Nat), .int .u64 (nx : Nat), .int .u64 (ny : Nat)] := hv 5 (by omega)
    have q6 : ∃ g, v6 = .slice (some ⟨g, 0, none⟩) 1 1 ∧ w3.heap[g]? = some (.cells #[.slice A0 n0 cc0, .bool had, .bool true, .bool true, .int .u64 (ox : Nat), .int .u64 (nx : Nat), .int .u64 (ny : Nat)] 149 (0, 0)) ∧ some g ≠ (Value.slice A cl.length c).ownBlock := hv 6 (by omega)
    have q7 : ∃ wa, Below wB.heap.size wB wa ∧ World.grownBy wa w3 (Value.slice A cl.length c).ownBlock ∧ OwnX (PtNew wB) W w3 v7 (cl ++ [⟨p, had, true, true, ox, nx, ny⟩]) := hv 7 (by omega)
    obtain rfl : v8 = .pointer (some ⟨G, 0, none⟩) := hv 8 (by omega)
    obtain rfl : v9 = .pointer (some ⟨G, 2, none⟩) := hv 9 (by omega)
    clear hv
    simp only [putAll, List.take_succ_cons, List.take_zero, List.drop_succ_cons, List.drop_zero, Act.put, List.setIfInBounds_toArray, List.set_cons_succ, List.set_cons_zero]
    obtain ⟨wa, hwa, hgr, hown7⟩ := q7
    obtain ⟨g, rfl, _, _⟩ := q6
    have h9a := (HOw.out.mono fun u p h => h.below hwa : OwnX (PtNew wa) W wB (.slice A cl.length c) cl).below hwa
    obtain ⟨hG4, hI4, hkm4⟩ := InvM.push (v' := v7) HWG.out ((hwa.block _ (lt_of_block HGb.out)).trans HGb.out) h9a (HBw.out.trans (hwa.mono HBw.out.size)) (hown7.mono fun u p h => h.below hwa) hgr
    have bCa := (hwa.block _ (lt_of_block HC.out.1)).trans HC.out.1
    have bC3 := (hgr.block C (lt_of_block bCa) (fun e => HC.out.2 C e.symm rfl)).trans bCa
    have hCG : C ≠ G := ne_type bC3 hG4 (by decide)
    have bC4 := (heap_setCell_other w3 ⟨G, 2, none⟩ C v7 hCG).trans bC3
    have HI4 := Lib.hid hI4
    have HKM := Lib.hid ((Km.of HBB.out).trans ((Km.of hwa).trans hkm4))
    have HR4 := Lib.hid (hkm4.keep _ _ _ _ ((hwa.block _ (lt_of_block HRB.out)).trans HRB.out) (by decide))
    have k2 : w3.cell? ⟨G, 2, none⟩ = some (.slice A cl.length c) := by simp [World.cell?, hG4]
    have kf : w3.frozen? ⟨G, 2, none⟩ = false := by simp [World.frozen?, hG4]
    have hlG3 := lt_of_block hG4
    obtain ⟨A7, n7, c7, rfl⟩ : ∃ A n c, v7 = .slice A n c := let ⟨A, c, h⟩ := hown7.shape; ⟨A, _, c, h⟩
    clear hwa hgr hown7 h9a hI4 hkm4 bCa bC3 hG4 x0 x1 x2 x3 x4 x5 x6 hlC g2 hlG hCG
    go_wp2_with fail
    generalize w3.setCell ⟨G, 2, none⟩ (.slice A7 n7 c7) = wD at *
    obtain ⟨A8, c8, hown8, hblk8, y0, y1, y2, yf⟩ := HI4.out.cells
    have hlG4 := lt_of_block hblk8
    obtain ⟨z0, z1, z2, z3, z4, z5, z6⟩ := cells7_of bC4
    have hlC4 := lt_of_block bC4
    clear hown8 hblk8 y0 y2 yf k2 kf hlG3 bC4
    refine wp_region_vals 6 [fun z9 _ => z9 = .pointer (some ⟨G, 0, none⟩),
      fun z9 _ => z9 = .pointer (some ⟨G, 0, none⟩),
      fun z9 _ => z9 = .pointer (some ⟨G, 1, none⟩),
      fun z9 _ => z9 = .func (.func f) #[] #[],
      fun z9 _ => z9 = .agg #[.slice A0 n0 cc0, .bool had, .bool true, .bool true, .int .u64 (ox : Nat), .int .u64 (nx : Nat), .int .u64 (ny : Nat)],
      fun v9 w9 => v9 = valV x]
      (by kernel_rfl) (by kernel_rfl) (by kernel_rfl) (by kernel_rfl) ?_ ?_ ?_
    · intro V hV v w1 w2 h hb
      simp only [List.mem_cons, List.not_mem_nil, or_false] at hV
      rcases hV with rfl | rfl | rfl | rfl | rfl | rfl
      all_goals first | exact h | (exact h)
    · intro iq oq hiq hoq
      match iq, hiq with
      | 0, _ =>
      obtain rfl := Option.some.inj hoq
      intro a1 w1 K hk hK
      have e0 : a1.tmps.getD 0 undef = .pointer (some ⟨G, 0, none⟩) := hk.same 0 (by simp)
      simp [Region.wanted, Oper.wp, Act.eval, go_sem, e0, y1, z0, z1, z2, z3, z4, z5, z6, hlG4, hlC4]
      exact hK _ _ (Below.refl _ _) rfl
      | 1, _ =>
      obtain rfl := Option.some.inj hoq
      intro a1 w1 K hk hK
      have d50 : a1.tmps.getD 50 undef = .pointer (some ⟨G, 0, none⟩) := hk.deps ⟨0, .data⟩ (by simp) rfl _ _ rfl rfl
      simp [Region.wanted, Oper.wp, Act.eval, go_sem, d50, y1, z0, z1, z2, z3, z4, z5, z6, hlG4, hlC4]
      exact hK _ _ (Below.refl _ _) rfl
      | 2, _ =>
      obtain rfl := Option.some.inj hoq
      intro a1 w1 K hk hK
      have d51 : a1.tmps.getD 51 undef = .pointer (some ⟨G, 0, none⟩) := hk.deps ⟨1, .data⟩ (by simp) rfl _ _ rfl rfl
      simp [Region.wanted, Oper.wp, Act.eval, go_sem, d51, y1, z0, z1, z2, z3, z4, z5, z6, hlG4, hlC4]
      exact hK _ _ (Below.refl _ _) rfl
      | 3, _ =>
      obtain rfl := Option.some.inj hoq
      intro a1 w1 K hk hK
      have d52 : a1.tmps.getD 52 undef = .pointer (some ⟨G, 1, none⟩) := hk.deps ⟨2, .data⟩ (by simp) rfl _ _ rfl rfl
      have c0 : w1.cell? ⟨G, 1, none⟩ = some (.func (.func f) #[] #[]) := Below.keeps hk.ext _ _ (by simp [go_sem, y1, z0, z1, z2, z3, z4, z5, z6, hlG4, hlC4])
      have c1 : w1.cell? ⟨C, 0, none⟩ = some (.slice A0 n0 cc0) := Below.keeps hk.ext _ _ (by simp [go_sem, y1, z0, z1, z2, z3, z4, z5, z6, hlG4, hlC4])
      have c2 : w1.cell? ⟨C, 1, none⟩ = some (.bool had) := Below.keeps hk.ext _ _ (by simp [go_sem, y1, z0, z1, z2, z3, z4, z5, z6, hlG4, hlC4])
      have c3 : w1.cell? ⟨C, 2, none⟩ = some (.bool true) := Below.keeps hk.ext _ _ (by simp [go_sem, y1, z0, z1, z2, z3, z4, z5, z6, hlG4, hlC4])
      have c4 : w1.cell? ⟨C, 3, none⟩ = some (.bool true) := Below.keeps hk.ext _ _ (by simp [go_sem, y1, z0, z1, z2, z3, z4, z5, z6, hlG4, hlC4])
      have c5 : w1.cell? ⟨C, 4, none⟩ = some (.int .u64 (ox : Nat)) := Below.keeps hk.ext _ _ (by simp [go_sem, y1, z0, z1, z2, z3, z4, z5, z6, hlG4, hlC4])
      have c6 : w1.cell? ⟨C, 5, none⟩ = some (.int .u64 (nx : Nat)) := Below.keeps hk.ext _ _ (by simp [go_sem, y1, z0, z1, z2, z3, z4, z5, z6, hlG4, hlC4])
      have c7 : w1.cell? ⟨C, 6, none⟩ = some (.int .u64 (ny : Nat)) := Below.keeps hk.ext _ _ (by simp [go_sem, y1, z0, z1, z2, z3, z4, z5, z6, hlG4, hlC4])
      simp [Region.wanted, Oper.wp, Act.eval, go_sem, d52, c0, c1, c2, c3, c4, c5, c6, c7, y1, z0, z1, z2, z3, z4, z5, z6, hlG4, hlC4]
      exact hK _ _ (Below.refl _ _) rfl
      | 4, _ =>
      obtain rfl := Option.some.inj hoq
      intro a1 w1 K hk hK
      have e7 : a1.tmps.getD 7 undef = .pointer (some ⟨C, 0, none⟩) := hk.same 7 (by simp)
      have c0 : w1.cell? ⟨G, 1, none⟩ = some (.func (.func f) #[] #[]) := Below.keeps hk.ext _ _ (by simp [go_sem, y1, z0, z1, z2, z3, z4, z5, z6, hlG4, hlC4])
      have c1 : w1.cell? ⟨C, 0, none⟩ = some (.slice A0 n0 cc0) := Below.keeps hk.ext _ _ (by simp [go_sem, y1, z0, z1, z2, z3, z4, z5, z6, hlG4, hlC4])
      have c2 : w1.cell? ⟨C, 1, none⟩ = some (.bool had) := Below.keeps hk.ext _ _ (by simp [go_sem, y1, z0, z1, z2, z3, z4, z5, z6, hlG4, hlC4])
      have c3 : w1.cell? ⟨C, 2, none⟩ = some (.bool true) := Below.keeps hk.ext _ _ (by simp [go_sem, y1, z0, z1, z2, z3, z4, z5, z6, hlG4, hlC4])
      have c4 : w1.cell? ⟨C, 3, none⟩ = some (.bool true) := Below.keeps hk.ext _ _ (by simp [go_sem, y1, z0, z1, z2, z3, z4, z5, z6, hlG4, hlC4])
      have c5 : w1.cell? ⟨C, 4, none⟩ = some (.int .u64 (ox : Nat)) := Below.keeps hk.ext _ _ (by simp [go_sem, y1, z0, z1, z2, z3, z4, z5, z6, hlG4, hlC4])
      have c6 : w1.cell? ⟨C, 5, none⟩ = some (.int .u64 (nx : Nat)) := Below.keeps hk.ext _ _ (by simp [go_sem, y1, z0, z1, z2, z3, z4, z5, z6, hlG4, hlC4])
      have c7 : w1.cell? ⟨C, 6, none⟩ = some (.int .u64 (ny : Nat)) := Below.keeps hk.ext _ _ (by simp [go_sem, y1, z0, z1, z2, z3, z4, z5, z6, hlG4, hlC4])
      simp [Region.wanted, Oper.wp, Act.eval, go_sem, e7, c0, c1, c2, c3, c4, c5, c6, c7, y1, z0, z1, z2, z3, z4, z5, z6, hlG4, hlC4]
      exact hK _ _ (Below.refl _ _) rfl
      | 5, _ =>
      obtain rfl := Option.some.inj hoq
      intro a1 w1 K hk hK
      have d53 : a1.tmps.getD 53 undef = .func (.func f) #[] #[] := hk.deps ⟨3, .data⟩ (by simp) rfl _ _ rfl rfl
      have d54 : a1.tmps.getD 54 undef = .agg #[.slice A0 n0 cc0, .bool had, .bool true, .bool true, .int .u64 (ox : Nat), .int .u64 (nx : Nat), .int .u64 (ny : Nat)] := hk.deps ⟨4, .data⟩ (by simp) rfl _ _ rfl rfl
      have D53x : a1.tmps[53]?.getD undef = .func (.func f) #[] #[] := by rw [← d53]; simp
      simp [Region.wanted, Oper.wp, Act.eval, go_sem, d53, D53x, d54, hent]
      refine (HPK.out w1).mono ?_
      rintro e w9 ⟨rfl, hb9⟩
      exact hK _ _ hb9 rfl
    · intro vs w3 hl hb3 hv
      match vs, hl with
      | [v0, v1, v2, v3, v4, v5], _ =>
      obtain rfl : v0 = .pointer (some ⟨G, 0, none⟩) := hv 0 (by omega)
      obtain rfl : v1 = .pointer (some ⟨G, 0, none⟩) := hv 1 (by omega)
      obtain rfl : v2 = .pointer (some ⟨G, 1, none⟩) := hv 2 (by omega)
      obtain rfl : v3 = .func (.func f) #[] #[] := hv 3 (by omega)
      obtain rfl : v4 = .agg #[.slice A0 n0 cc0, .bool had, .bool true, .bool true, .int .u64 (ox : Nat), .int .u64 (nx : Nat), .int .u64 (ny : Nat)] := hv 4 (by omega)
      have q5 : v5 = valV x := hv 5 (by omega)
      clear hv
      simp only [putAll, List.take_succ_cons, List.take_zero, List.drop_succ_cons, List.drop_zero, Act.put, List.setIfInBounds_toArray, List.set_cons_succ, List.set_cons_zero]
      have hb5 : Below wD.heap.size wD w3 := by first | exact hb3 | exact below_trans (by repeat (first | exact Below.refl _ _ | (refine Below.drew ?_) | (refine below_drewN' ?_ _) | (refine below_alloc' ?_ _) | (refine Below.setCell ?_ (by first | exact Nat.le_refl _ | (simp; done) | (simp; omega)) _))) hb3
      have HI5 := Lib.hid (HI4.out.below hb5)
      have HK5 := Lib.hid (HKM.out.trans (Km.of hb5))
      have hR5 := (hb5.block _ (lt_of_block HR4.out)).trans HR4.out
      have HR5 := Lib.hid hR5
      have r0 : w3.cell? ⟨R, 0, none⟩ = some (.bool false) := by simp [World.cell?, hR5]
      have r1 : w3.cell? ⟨R, 1, none⟩ = some (.int .u64 0) := by simp [World.cell?, hR5]
      have rf : ∀ i, w3.frozen? ⟨R, i, none⟩ = false := fun i => by simp [World.frozen?, hR5]
      have hrl := lt_of_block hR5
      rw [q5]
      unfold valV
      clear hb3 hb5 hR5 y1 z0 z1 z2 z3 z4 z5 z6 hlG4 hlC4 q5
      go_wp2_with fail
      refine bodyPost_ret (v := .agg #[.bool x.isSome, .int .u64 ((x.getD 0 : Nat) : Int)]) (by simp [results, Tryz.results246, go_sem, r0, r1, rf, hrl]) rfl ⟨rfl, ?_, ?_⟩
      · have e1 := three_setCell (k := 0) (u := .bool x.isSome) HR5.out
        exact (HI5.out.setNew HR5.out (by decide) (by decide) (by decide) (by have := HRX.out; have := HIW.out; omega)).setNew e1 (by decide) (by decide) (by decide) (by have := HRX.out; have := HIW.out; omega)
      · exact (HK5.out.setNew HRX.out).setNew HRX.out

set_option maxRecDepth 100000 in
set_option maxHeartbeats 2000000 in
theorem bothS_true (w : World) (G : Nat) (A0 A1 : Option Addr) (n0 cc0 n1 cc1 : Nat) (had hady : Bool) (ox nx oy : Nat) :
    Calls Tryz.prog 246 #[.pointer (some ⟨G, 0, none⟩), .agg #[.slice A0 n0 cc0, .bool had, .bool true, .int .u64 (ox : Nat), .int .u64 (nx : Nat)], .agg #[.slice A1 n1 cc1, .bool hady, .bool true, .int .u64 (oy : Nat), .int .u64 (nx : Nat)]] w fun e w' => e = .returned (.agg #[.bool true, .int .u64 (nx : Nat)]) ∧ Below w.heap.size w w' := by
  go_enter Tryz.func246, Tryz.ntmps246
  go_wp2_with fail
  refine bodyPost_ret (v := .agg #[.bool true, .int .u64 (nx : Nat)]) (by simp [results, Tryz.results246, go_sem]) rfl ⟨rfl, (by repeat (first | exact Below.refl _ _ | (refine Below.drew ?_) | (refine below_drewN' ?_ _) | (refine below_alloc' ?_ _) | (refine Below.setCell ?_ (by first | exact Nat.le_refl _ | (simp; done) | (simp; omega)) _)))⟩

set_option maxRecDepth 100000 in
set_option maxHeartbeats 2000000 in
theorem bothS_false (w : World) (G : Nat) (A0 A1 : Option Addr) (n0 cc0 n1 cc1 : Nat) (had hady : Bool) (ox nx oy : Nat) :
    Calls Tryz.prog 246 #[.pointer (some ⟨G, 0, none⟩), .agg #[.slice A0 n0 cc0, .bool had, .bool false, .int .u64 (ox : Nat), .int .u64 (nx : Nat)], .agg #[.slice A1 n1 cc1, .bool hady, .bool false, .int .u64 (oy : Nat), .int .u64 (nx : Nat)]] w fun e w' => e = .returned (.agg #[.bool false, .int .u64 (nx : Nat)]) ∧ Below w.heap.size w w' := by
  go_enter Tryz.func246, Tryz.ntmps246
  go_wp2_with fail
  refine bodyPost_ret (v := .agg #[.bool false, .int .u64 (nx : Nat)]) (by simp [results, Tryz.results246, go_sem]) rfl ⟨rfl, (by repeat (first | exact Below.refl _ _ | (refine Below.drew ?_) | (refine below_drewN' ?_ _) | (refine below_alloc' ?_ _) | (refine Below.setCell ?_ (by first | exact Nat.le_refl _ | (simp; done) | (simp; omega)) _)))⟩

theorem pick1_any (w : World) (A : Option Addr) (n c : Nat) (inO inA inB : Bool) (o a b : Nat) :
    Calls Tryz.prog 156 #[.agg #[.slice A n c, .bool inO, .bool inA, .bool inB, .int .u64 (o : Nat), .int .u64 (a : Nat), .int .u64 (b : Nat)]] w fun e w' => e = .returned (.agg #[.bool inA, .int .u64 (a : Nat)]) ∧ Below w.heap.size w w' := by
  go_enter Tryz.func156, Tryz.ntmps156
  go_wp2_with fail
  refine bodyPost_ret (v := .agg #[.bool inA, .int .u64 (a : Nat)]) (by simp [results, Tryz.results156, go_sem]) rfl ⟨rfl, (by repeat (first | exact Below.refl _ _ | (refine Below.drew ?_) | (refine below_drewN' ?_ _) | (refine below_alloc' ?_ _) | (refine Below.setCell ?_ (by first | exact Nat.le_refl _ | (simp; done) | (simp; omega)) _)))⟩

end Go.Proofs.YtdkomhmciihkiaaGreat
/-! SrtP -/
namespace Go.Proofs.YtdkomhmciihkiaaGreat
open Go.RowKit
set_option linter.unusedVariables false

/-- an element of the row: the point's slice, the entry -/
abbrev Pe := Value × En
def ek (x : Pe) : Nat := x.2.key
def Srt (l : List Pe) : Prop := l.Pairwise fun x y => ek x ≤ ek y
/-- of each key the same ones in the same order -/
def Stb (l m : List Pe) : Prop := ∀ n, l.filter (fun x => ek x == n) = m.filter (fun x => ek x == n)
theorem Stb.refl (l : List Pe) : Stb l l := fun n => rfl
theorem Stb.symm {l m : List Pe} (h : Stb l m) : Stb m l := fun n => (h n).symm
theorem Stb.trans {l m o : List Pe} (h : Stb l m) (g : Stb m o) : Stb l o := fun n => (h n).trans (g n)
theorem Stb.append {a a' b b' : List Pe} (h : Stb a a') (g : Stb b b') : Stb (a ++ b) (a' ++ b') := fun n => by rw [List.filter_append, List.filter_append, h n, g n]
theorem Stb.swap {X Y : List Pe} (h : ∀ x ∈ X, ∀ y ∈ Y, ek x ≠ ek y) : Stb (X ++ Y) (Y ++ X) := fun n => by
  rw [List.filter_append, List.filter_append]
  by_cases hx : X.filter (fun x => ek x == n) = []
  · rw [hx]; simp
  · obtain ⟨x, hx⟩ := List.exists_mem_of_ne_nil _ hx
    rw [List.mem_filter] at hx
    have hy : Y.filter (fun x => ek x == n) = [] := by
      rw [List.filter_eq_nil_iff]
      intro y hy hk
      refine h x hx.1 y hy ?_
      have h1 : ek x = n := by simpa using hx.2
      have h2 : ek y = n := by simpa using hk
      rw [h1, h2]
    rw [hy]; simp
/-- the last one of each key of a sorted list -/
def lastsL : List Pe → List Pe
  | [] => []
  | [x] => [x]
  | x :: y :: l => if ek x = ek y then lastsL (y :: l) else x :: lastsL (y :: l)
end Go.Proofs.YtdkomhmciihkiaaGreat
/-! BldA -/
namespace Go.Proofs.YtdkomhmciihkiaaGreat
open Go.RowKit
set_option linter.unusedVariables false
set_option linter.unusedSimpArgs false
set_option maxRecDepth 100000

end Go.Proofs.YtdkomhmciihkiaaGreat
/-! SrtA -/
namespace Go.Proofs.YtdkomhmciihkiaaGreat
open Go.RowKit
set_option linter.unusedVariables false
set_option linter.unusedSimpArgs false
set_option maxRecDepth 100000

/-- the row at block g, with room for n, holds the elements xs -/
structure PR (W0 w : World) (g n : Nat) (xs : List Pe) : Prop where
  cells : ∃ cur, w.heap[g]? = some (.cells cur 35 (0, 0)) ∧ cur.size = n * 2 ∧ xs.length ≤ n ∧ ∀ j (h : j < xs.length), cur[j * 2]? = some xs[j].1 ∧ cur[j * 2 + 1]? = some (.int .u64 (xs[j].2.v : Nat))
  pts : ∀ x ∈ xs, RdU W0 x.1 (pti x.2.p)
  low : W0.heap.size ≤ g
  bel : Below W0.heap.size W0 w
theorem PR.at' {W0 w : World} {g n : Nat} {xs : List Pe} (h : PR W0 w g n xs) (j : Nat) (hj : j < xs.length) : w.cell? ⟨g, j * 2, none⟩ = some xs[j].1 ∧ w.cell? ⟨g, j * 2 + 1, none⟩ = some (.int .u64 (xs[j].2.v : Nat)) := by
  obtain ⟨cur, h1, h2, h3, h4⟩ := h.cells
  obtain ⟨a, b⟩ := h4 j hj
  exact ⟨by simp [World.cell?, h1, a], by simp [World.cell?, h1, b]⟩
theorem PR.lt {W0 w : World} {g n : Nat} {xs : List Pe} (h : PR W0 w g n xs) : g < w.heap.size := by
  obtain ⟨cur, h1, _⟩ := h.cells
  exact kr_lt h1
theorem PR.step {W0 w w' : World} {g n : Nat} {xs : List Pe} (h : PR W0 w g n xs) (hb : Below w.heap.size w w') : PR W0 w' g n xs := by
  obtain ⟨cur, h1, h2⟩ := h.cells
  exact ⟨⟨cur, (hb.block g h.lt).trans h1, h2⟩, h.pts, h.low, h.bel.trans (hb.mono h.bel.size)⟩
theorem PR.set {W0 w : World} {g n j : Nat} {xs : List Pe} (h : PR W0 w g n xs) (hj : j < xs.length) (x : Pe) (hx : RdU W0 x.1 (pti x.2.p)) :
    PR W0 ((w.setCell ⟨g, j * 2, none⟩ x.1).setCell ⟨g, j * 2 + 1, none⟩ (.int .u64 (x.2.v : Nat))) g n (xs.set j x) := by
  obtain ⟨cur, h1, h2, h3, h4⟩ := h.cells
  refine ⟨⟨_, kr_set (kr_set h1), by simpa using h2, by simpa using h3, fun i hi => ?_⟩, fun y hy => ?_, h.low, (h.bel.setCell (p := ⟨g, _, none⟩) h.low _).setCell (p := ⟨g, _, none⟩) h.low _⟩
  · rw [List.length_set] at hi
    obtain ⟨a, b⟩ := h4 i hi
    by_cases e : i = j
    · subst e
      simp only [List.getElem_set_self]
      refine ⟨?_, ?_⟩
      · rw [Array.getElem?_setIfInBounds_ne (by omega)]
        exact Array.getElem?_setIfInBounds_self_of_lt (by omega)
      · exact Array.getElem?_setIfInBounds_self_of_lt (by simp; omega)
    · rw [List.getElem_set_ne (by omega)]
      refine ⟨?_, ?_⟩ <;> rw [Array.getElem?_setIfInBounds_ne (by omega), Array.getElem?_setIfInBounds_ne (by omega)] <;> assumption
  · rcases List.mem_or_eq_of_mem_set hy with hy | rfl
    · exact h.pts y hy
    · exact hx
theorem Srt.append {P Q : List Pe} (hp : Srt P) (hq : Srt Q) (h : ∀ x ∈ P, ∀ y ∈ Q, ek x ≤ ek y) : Srt (P ++ Q) := List.pairwise_append.2 ⟨hp, hq, h⟩
/-- what stands ahead of a round of the inner loop: x is on its way down -/
structure InI (W0 wr : World) (g n a : Nat) (A S R B : List Pe) (x : Pe) (P Q : List Pe) : Prop where
  pr : PR W0 wr g n (A ++ (P ++ x :: (Q ++ (R ++ B))))
  srt : Srt (P ++ Q)
  stb : Stb S (P ++ x :: (Q ++ R))
  gt : ∀ y ∈ Q, ek x < ek y
  len : P.length + Q.length + 1 + R.length = S.length
theorem InI.done {W0 wr : World} {g n a : Nat} {A S R B : List Pe} {x : Pe} {P Q : List Pe} (h : InI W0 wr g n a A S R B x P Q) (hle : ∀ y ∈ P, ek y ≤ ek x) :
    PR W0 wr g n (A ++ ((P ++ x :: Q) ++ (R ++ B))) ∧ Srt (P ++ x :: Q) ∧ Stb S ((P ++ x :: Q) ++ R) ∧ (P ++ x :: Q).length + R.length = S.length ∧ 1 ≤ (P ++ x :: Q).length := by
  refine ⟨by simpa using h.pr, ?_, by simpa using h.stb, by have := h.len; simp; omega, by simp; omega⟩
  obtain ⟨h1, h2, h3⟩ := List.pairwise_append.1 h.srt
  refine List.pairwise_append.2 ⟨h1, List.pairwise_cons.2 ⟨fun z hz => Nat.le_of_lt (h.gt z hz), h2⟩, fun y hy z hz => ?_⟩
  rcases List.mem_cons.1 hz with rfl | hz
  · exact hle y hy
  · exact h3 y hy z hz
theorem InI.step {W0 wr w' : World} {g n a : Nat} {A S R B : List Pe} {x : Pe} {P Q : List Pe} (h : InI W0 wr g n a A S R B x P Q) (hb : Below wr.heap.size wr w') : InI W0 w' g n a A S R B x P Q :=
  ⟨h.pr.step hb, h.srt, h.stb, h.gt, h.len⟩
/-- x has gone down by one -/
theorem InI.down {W0 wr w' : World} {g n a : Nat} {A S R B : List Pe} {x y : Pe} {P Q : List Pe} (h : InI W0 wr g n a A S R B x (P ++ [y]) Q) (hlt : ek x < ek y) (hpr : PR W0 w' g n (A ++ (P ++ x :: y :: (Q ++ (R ++ B))))) :
    InI W0 w' g n a A S R B x P (y :: Q) := by
  refine ⟨by simpa using hpr, by simpa using h.srt, ?_, fun z hz => ?_, by have := h.len; simp at this ⊢; omega⟩
  · refine h.stb.trans ?_
    have e1 : (P ++ [y]) ++ x :: (Q ++ R) = P ++ (([y] ++ [x]) ++ (Q ++ R)) := by simp
    have e2 : P ++ x :: ((y :: Q) ++ R) = P ++ (([x] ++ [y]) ++ (Q ++ R)) := by simp
    rw [e1, e2]
    refine (Stb.refl P).append ((Stb.swap fun u hu v hv => ?_).append (Stb.refl _))
    obtain rfl := List.mem_singleton.1 hu
    obtain rfl := List.mem_singleton.1 hv
    omega
  · rcases List.mem_cons.1 hz with rfl | hz
    · exact hlt
    · exact h.gt z hz
end Go.Proofs.YtdkomhmciihkiaaGreat
/-! SrtC -/
namespace Go.Proofs.YtdkomhmciihkiaaGreat
open Go.RowKit
set_option linter.unusedVariables false
set_option linter.unusedSimpArgs false
set_option maxRecDepth 100000

theorem cellsE_pe {w : World} {cs : List Value} {l : List En} (h : CellsE w cs l) : ∃ xs : List Pe, xs.map (·.2) = l ∧ (∀ x ∈ xs, RdU w x.1 (pti x.2.p)) ∧ cs.length = xs.length * 2 ∧
    ∀ j (hj : j < xs.length), cs[j * 2]? = some xs[j].1 ∧ cs[j * 2 + 1]? = some (.int .u64 (xs[j].2.v : Nat)) := by
  induction l generalizing cs with
  | nil => obtain rfl : cs = [] := h; exact ⟨[], rfl, by simp, rfl, fun j hj => by simp at hj⟩
  | cons e l ih =>
    obtain ⟨u, ds, rfl, hu, h⟩ := h
    obtain ⟨xs, h1, h2, h3, h4⟩ := ih h
    refine ⟨(u, e) :: xs, by simp [h1], ?_, by simp [h3]; omega, ?_⟩
    · intro x hx
      rcases List.mem_cons.1 hx with rfl | hx
      · exact hu
      · exact h2 x hx
    · intro j hj
      cases j with
      | zero => simp
      | succ j =>
        obtain ⟨a, b⟩ := h4 j (by simpa using hj)
        refine ⟨?_, ?_⟩
        · rw [show (j + 1) * 2 = j * 2 + 1 + 1 by omega]; simpa using a
        · rw [show (j + 1) * 2 + 1 = j * 2 + 1 + 1 + 1 by omega]; simpa using b
theorem OwnE.pr {W w : World} {v : Value} {l : List En} (h : OwnE W w v l) (hb : Below W.heap.size W w) (hne : l ≠ []) : ∃ g n xs, v = .slice (some ⟨g, 0, none⟩) l.length n ∧ PR W w g n xs ∧ xs.map (·.2) = l := by
  obtain ⟨cs, ⟨h1, h2⟩, h3⟩ := h
  obtain ⟨xs, e1, e2, e3, e4⟩ := cellsE_pe h3
  have hlen : xs.length = l.length := by rw [← e1]; simp
  rcases h2 with ⟨_, h0⟩ | ⟨g, cap, cur, rfl, hg, hh, hcap, hm, hs, ht⟩
  · exact absurd (List.length_eq_zero_iff.1 h0) hne
  · refine ⟨g, cap, xs, rfl, ⟨⟨cur, hh, hs, by omega, fun j hj => ?_⟩, e2, hg, hb⟩, e1⟩
    obtain ⟨a, b⟩ := e4 j hj
    have key : ∀ i x, cs[i]? = some x → cur[i]? = some x := fun i x hi => by
      rw [← ht] at hi
      have hil := (List.getElem?_eq_some_iff.1 hi).1
      rw [List.length_take] at hil
      rw [List.getElem?_take_of_lt (by omega), Array.getElem?_toList] at hi
      exact hi
    exact ⟨key _ _ a, key _ _ b⟩
end Go.Proofs.YtdkomhmciihkiaaGreat
/-! SrtD -/
namespace Go.Proofs.YtdkomhmciihkiaaGreat
open Go.RowKit
set_option linter.unusedVariables false
set_option linter.unusedSimpArgs false
set_option maxRecDepth 100000

theorem PR.room {W0 w : World} {g n : Nat} {xs : List Pe} (h : PR W0 w g n xs) (j : Nat) (hj : j < n * 2) : (w.cell? ⟨g, j, none⟩).isSome = true := by
  obtain ⟨cur, h1, h2, _⟩ := h.cells
  simp [World.cell?, h1, h2, hj]
/-- what stands ahead of a round: r are kept, from j on the row is as it was sorted -/
structure SrI (W0 wr : World) (g n : Nat) (ys zs : List Pe) (j r : Nat) : Prop where
  pr : PR W0 wr g n zs
  len : zs.length = ys.length
  rj : r ≤ j
  jm : j ≤ ys.length
  rest : ∀ i (h : i < ys.length) (h' : i < zs.length), j ≤ i → zs[i] = ys[i]
  out : zs.take r ++ lastsL (ys.drop j) = lastsL ys
theorem SrI.skip {W0 wr w' : World} {g n : Nat} {ys zs : List Pe} {j r : Nat} (h : SrI W0 wr g n ys zs j r) (hb : Below wr.heap.size wr w') (hj : j + 1 < ys.length) (he : ek (ys[j]'(by omega)) = ek ys[j + 1]) : SrI W0 w' g n ys zs (j + 1) r := by
  refine ⟨h.pr.step hb, h.len, by have := h.rj; omega, by omega, fun i h1 h2 h3 => h.rest i h1 h2 (by omega), ?_⟩
  rw [← h.out]
  congr 1
  rw [← List.getElem_cons_drop (show j < ys.length by omega), ← List.getElem_cons_drop hj]
  conv => rhs; unfold lastsL
  rw [if_pos he]
theorem SrI.take {W0 wr w' : World} {g n : Nat} {ys zs : List Pe} {j r : Nat} (h : SrI W0 wr g n ys zs j r) (hj : j < ys.length) (hne : ∀ h : j + 1 < ys.length, ek ys[j] ≠ ek (ys[j + 1]'h)) (hpr : PR W0 w' g n (zs.set r ys[j])) : SrI W0 w' g n ys (zs.set r ys[j]) (j + 1) (r + 1) := by
  have hrz : r < zs.length := by have := h.rj; have := h.len; omega
  refine ⟨hpr, by rw [List.length_set]; exact h.len, by have := h.rj; omega, by omega, fun i h1 h2 h3 => ?_, ?_⟩
  · rw [List.length_set] at h2
    rw [List.getElem_set_ne (by have := h.rj; omega)]
    exact h.rest i h1 h2 (by omega)
  · rw [← h.out, List.take_add_one, List.getElem?_set_self hrz]
    have e1 : (zs.set r ys[j]).take r = zs.take r := by rw [List.take_set_of_le (Nat.le_refl _)]
    rw [e1, List.append_assoc]
    congr 1
    rw [← List.getElem_cons_drop hj]
    by_cases hlast : j + 1 < ys.length
    · rw [← List.getElem_cons_drop hlast]
      conv => rhs; unfold lastsL
      rw [if_neg (hne hlast)]
      rfl
    · rw [List.drop_eq_nil_of_le (by omega)]
      rfl
theorem PR.rd {W0 w : World} {g n r : Nat} {zs : List Pe} {l : List En} (h : PR W0 w g n zs) (hr : r ≤ zs.length) (hn : n ≤ maxLen) (hl : (zs.take r).map (·.2) = l) : RdE w (.slice (some ⟨g, 0, none⟩) r n) l := by
  subst hl
  have hlen : ((zs.take r).map (·.2)).length = r := by simp; omega
  refine ⟨some ⟨g, 0, none⟩, n, by rw [hlen], ⟨by rw [hlen]; obtain ⟨_, _, _, h3, _⟩ := h.cells; omega, hn, fun _ => ⟨g, 0, rfl⟩⟩, fun _ => ⟨g, 0, rfl, fun q hq => ?_⟩⟩
  have hq' := hq
  rw [hlen] at hq'
  obtain ⟨a, b⟩ := h.at' q (by omega)
  have e : ((zs.take r).map (·.2))[q]'hq = (zs[q]'(by omega)).2 := by simp
  rw [e, Nat.zero_add]
  exact ⟨_, a, (h.pts _ (List.getElem_mem _)).below h.bel, b⟩
end Go.Proofs.YtdkomhmciihkiaaGreat
/-! MakA -/
namespace Go.Proofs.YtdkomhmciihkiaaGreat
open Go.RowKit
set_option linter.unusedVariables false
set_option linter.unusedSimpArgs false
set_option maxRecDepth 100000

theorem nd_k (w : World) (k g : Nat) (l : List En) (hn : Nd w k g l) : Calls Tryz.prog 118 #[.pointer (some ⟨g, 0, none⟩)] w fun e w' => e = .returned (.int .i64 (k : Nat)) ∧ w' = w := by
  obtain ⟨va, kp, hh⟩ := hn.hd
  obtain ⟨hpl, _⟩ := hn.pre_ok
  obtain ⟨u, c1, hu⟩ := hh.c1
  obtain ⟨A0, c0, rfl, _⟩ := RdU.point hu
  exact nk_any w g k A0 c0 (by rw [hpl] at c1; exact c1)
theorem of_nd (w : World) (k g : Nat) (l : List En) (hn : Nd w k g l) (k1 : 1 ≤ k) (k16 : k ≤ 16) :
    Calls Tryz.prog 60 #[.int .i64 (k : Nat), .pointer (some ⟨g, 0, none⟩)] w fun e w' => ∃ t, e = .returned (.tuple #[.pointer (some ⟨t, 0, none⟩), .int .i64 0]) ∧ TrR w' t k l ∧ Below w.heap.size w w' := by
  have HD := Lib.hid (And.intro k1 (And.intro k16 hn))
  have h1 : ¬ (k : Int) < 1 := by omega
  have h2 : ¬ (k : Int) > 16 := by omega
  have h3 : decide ((k : Int) < 1) = false := by simp; omega
  have h4 : decide ((k : Int) > 16) = false := by simp; omega
  have HK := Lib.hid (nd_k w k g l hn)
  clear k1 k16 hn
  go_enter Tryz.func60, Tryz.ntmps60
  go_wp2_with fail
  refine HK.out.mono ?_
  rintro e w2 ⟨rfl, hw⟩
  obtain rfl := hw.symm
  clear hw
  go_wp2_with fail
  go_ret2
  exact ⟨_, rfl, ⟨by simp [go_sem], ⟨some g, by simp [go_sem, pv], HD.out.2.2.bel (by repeat (first | exact Below.refl _ _ | (refine Below.drew ?_) | (refine below_drewN' ?_ _) | (refine below_alloc' ?_ _) | (refine Below.setCell ?_ (by first | exact Nat.le_refl _ | (simp; done) | (simp; omega)) _)))⟩, HD.out.1, HD.out.2.1, _, alloc_blk _ _⟩, (by repeat (first | exact Below.refl _ _ | (refine Below.drew ?_) | (refine below_drewN' ?_ _) | (refine below_alloc' ?_ _) | (refine Below.setCell ?_ (by first | exact Nat.le_refl _ | (simp; done) | (simp; omega)) _)))⟩
end Go.Proofs.YtdkomhmciihkiaaGreat
/-! MrgC -/
namespace Go.Proofs.YtdkomhmciihkiaaGreat
open Go.RowKit
set_option linter.unusedVariables false
set_option linter.unusedSimpArgs false
set_option maxRecDepth 100000

theorem pick5_tt (w : World) (A : Option Addr) (n c : Nat) (inO : Bool) (o a b : Nat) :
    Calls Tryz.prog 160 #[.agg #[.slice A n c, .bool inO, .bool true, .bool true, .int .u64 (o : Nat), .int .u64 (a : Nat), .int .u64 (b : Nat)]] w fun e w' => e = .returned (.agg #[.bool true, .int .u64 (mxI (a : Int) (b : Int))]) ∧ Below w.heap.size w w' := by
  go_enter Tryz.func160, Tryz.ntmps160
  go_wp2_with fail
  refine bodyPost_ret (v := .agg #[.bool true, .int .u64 (mxI (a : Int) (b : Int))]) (by simp [results, Tryz.results160, go_sem, mxI]) rfl ⟨rfl, (by repeat (first | exact Below.refl _ _ | (refine Below.drew ?_) | (refine below_drewN' ?_ _) | (refine below_alloc' ?_ _) | (refine Below.setCell ?_ (by first | exact Nat.le_refl _ | (simp; done) | (simp; omega)) _)))⟩

theorem pick5_tf (w : World) (A : Option Addr) (n c : Nat) (inO : Bool) (o a b : Nat) :
    Calls Tryz.prog 160 #[.agg #[.slice A n c, .bool inO, .bool true, .bool false, .int .u64 (o : Nat), .int .u64 (a : Nat), .int .u64 (b : Nat)]] w fun e w' => e = .returned (.agg #[.bool true, .int .u64 (mxI (a : Int) (b : Int))]) ∧ Below w.heap.size w w' := by
  go_enter Tryz.func160, Tryz.ntmps160
  go_wp2_with fail
  refine bodyPost_ret (v := .agg #[.bool true, .int .u64 (mxI (a : Int) (b : Int))]) (by simp [results, Tryz.results160, go_sem, mxI]) rfl ⟨rfl, (by repeat (first | exact Below.refl _ _ | (refine Below.drew ?_) | (refine below_drewN' ?_ _) | (refine below_alloc' ?_ _) | (refine Below.setCell ?_ (by first | exact Nat.le_refl _ | (simp; done) | (simp; omega)) _)))⟩

theorem pick5_ft (w : World) (A : Option Addr) (n c : Nat) (inO : Bool) (o a b : Nat) :
    Calls Tryz.prog 160 #[.agg #[.slice A n c, .bool inO, .bool false, .bool true, .int .u64 (o : Nat), .int .u64 (a : Nat), .int .u64 (b : Nat)]] w fun e w' => e = .returned (.agg #[.bool true, .int .u64 (mxI (a : Int) (b : Int))]) ∧ Below w.heap.size w w' := by
  go_enter Tryz.func160, Tryz.ntmps160
  go_wp2_with fail
  refine bodyPost_ret (v := .agg #[.bool true, .int .u64 (mxI (a : Int) (b : Int))]) (by simp [results, Tryz.results160, go_sem, mxI]) rfl ⟨rfl, (by repeat (first | exact Below.refl _ _ | (refine Below.drew ?_) | (refine below_drewN' ?_ _) | (refine below_alloc' ?_ _) | (refine Below.setCell ?_ (by first | exact Nat.le_refl _ | (simp; done) | (simp; omega)) _)))⟩

theorem pick5_ff (w : World) (A : Option Addr) (n c : Nat) (inO : Bool) (o a b : Nat) :
    Calls Tryz.prog 160 #[.agg #[.slice A n c, .bool inO, .bool false, .bool false, .int .u64 (o : Nat), .int .u64 (a : Nat), .int .u64 (b : Nat)]] w fun e w' => e = .returned (.agg #[.bool false, .int .u64 (mxI (a : Int) (b : Int))]) ∧ Below w.heap.size w w' := by
  go_enter Tryz.func160, Tryz.ntmps160
  go_wp2_with fail
  refine bodyPost_ret (v := .agg #[.bool false, .int .u64 (mxI (a : Int) (b : Int))]) (by simp [results, Tryz.results160, go_sem, mxI]) rfl ⟨rfl, (by repeat (first | exact Below.refl _ _ | (refine Below.drew ?_) | (refine below_drewN' ?_ _) | (refine below_alloc' ?_ _) | (refine Below.setCell ?_ (by first | exact Nat.le_refl _ | (simp; done) | (simp; omega)) _)))⟩

def pk1 (c : Clh) : Option Nat := if c.inA then some c.a else none
def pk5 (c : Clh) : Option Nat := if c.inA || c.inB then some (max c.a c.b) else none

theorem pickOk1 : PickOk 156 pk1 := by
  refine ⟨enters_lit' Tryz.func156 (by kernel_rfl) (by kernel_rfl), fun w A n cc c hc => ?_⟩
  obtain ⟨p, inO, inA, inB, o, a, b⟩ := c
  obtain ⟨h1, h2, h3⟩ := hc
  refine (pick1_any w A n cc inO inA inB o a b).mono fun e w' => ?_
  rintro ⟨rfl, hb⟩
  refine ⟨?_, hb⟩
  cases inA
  · obtain rfl : a = 0 := h2 rfl
    rfl
  · rfl
theorem pickOk5 : PickOk 160 pk5 := by
  refine ⟨enters_lit' Tryz.func160 (by kernel_rfl) (by kernel_rfl), fun w A n cc c hc => ?_⟩
  obtain ⟨p, inO, inA, inB, o, a, b⟩ := c
  obtain ⟨h1, h2, h3⟩ := hc
  cases inA <;> cases inB
  · refine (pick5_ff w A n cc inO o a b).mono fun e w' => ?_
    rintro ⟨rfl, hb⟩
    obtain rfl : a = 0 := h2 rfl
    obtain rfl : b = 0 := h3 rfl
    exact ⟨rfl, hb⟩
  · refine (pick5_ft w A n cc inO o a b).mono fun e w' => ?_
    rintro ⟨rfl, hb⟩
    exact ⟨by rw [mxI_nat]; rfl, hb⟩
  · refine (pick5_tf w A n cc inO o a b).mono fun e w' => ?_
    rintro ⟨rfl, hb⟩
    exact ⟨by rw [mxI_nat]; rfl, hb⟩
  · refine (pick5_tt w A n cc inO o a b).mono fun e w' => ?_
    rintro ⟨rfl, hb⟩
    exact ⟨by rw [mxI_nat]; rfl, hb⟩
theorem picks_1 (w : World) : Calls Tryz.prog 98 #[.int .i64 1] w fun e w' => e = .returned (.tuple #[.func (.func 156) #[] #[], .bool true]) ∧ w' = w := by
  go_enter Tryz.func98, Tryz.ntmps98
  go_wp2_with fail
  go_ret2
  exact ⟨rfl, rfl⟩
theorem picks_5 (w : World) : Calls Tryz.prog 98 #[.int .i64 5] w fun e w' => e = .returned (.tuple #[.func (.func 160) #[] #[], .bool true]) ∧ w' = w := by
  go_enter Tryz.func98, Tryz.ntmps98
  go_wp2_with fail
  go_ret2
  exact ⟨rfl, rfl⟩
/-- a tree is handed back -/
def TreP (W : World) (k : Nat) (l : List En) (e : Ending) (w' : World) : Prop := ∃ t, e = .returned (.pointer (some ⟨t, 0, none⟩)) ∧ TrR w' t k l ∧ Below W.heap.size W w'
theorem mput_some (w : World) (t k v : Nat) (p : List Nat) (l : List En) (vp : Value) (ht : TrR w t k l) (hp : RdU w vp (pti p)) (hl : p.length = k) (ho : ∀ c ∈ p, c < 2 ^ 64) (hv : v < 2 ^ 64) :
    Calls Tryz.prog 247 #[.pointer (some ⟨t, 0, none⟩), vp, .agg #[.bool true, .int .u64 (v : Nat)]] w fun e w' => TreP w k (insE p v l) e w' := by
  have HT := Lib.hid (fun W (h : Below w.heap.size w W) => tput_any W t k v p l vp (ht.bel h) (hp.below h) hl ho hv)
  obtain ⟨A, c, rfl, _⟩ := RdU.point hp
  clear ht hp hl ho hv
  go_enter Tryz.func247, Tryz.ntmps247
  go_wp2_with fail
  refine (HT.out _ (by repeat (first | exact Below.refl _ _ | (refine Below.drew ?_) | (refine below_drewN' ?_ _) | (refine below_alloc' ?_ _) | (refine Below.setCell ?_ (by first | exact Nat.le_refl _ | (simp; done) | (simp; omega)) _)))).mono ?_
  rintro e w1 ⟨g, rfl, hg, hb, _⟩
  have HG := Lib.hid (And.intro hg (below_trans (show Below w.heap.size w _ from (by repeat (first | exact Below.refl _ _ | (refine Below.drew ?_) | (refine below_drewN' ?_ _) | (refine below_alloc' ?_ _) | (refine Below.setCell ?_ (by first | exact Nat.le_refl _ | (simp; done) | (simp; omega)) _)))) hb))
  clear hg hb
  go_wp2_with fail
  go_ret
  exact ⟨g, rfl, HG.out.1, HG.out.2⟩
theorem mput_none (w : World) (t k : Nat) (p : List Nat) (l : List En) (vp : Value) (ht : TrR w t k l) (hp : RdU w vp (pti p)) (hl : p.length = k) (ho : ∀ c ∈ p, c < 2 ^ 64) :
    Calls Tryz.prog 247 #[.pointer (some ⟨t, 0, none⟩), vp, .agg #[.bool false, .int .u64 0]] w fun e w' => TreP w k (delE p l) e w' := by
  have HT := Lib.hid (fun W (h : Below w.heap.size w W) => tdel_any W t k p l vp (ht.bel h) (hp.below h) hl ho)
  have HT0 := Lib.hid ht
  obtain ⟨A, c, rfl, _⟩ := RdU.point hp
  clear ht hp hl ho
  go_enter Tryz.func247, Tryz.ntmps247
  go_wp2_with fail
  refine (HT.out _ (by repeat (first | exact Below.refl _ _ | (refine Below.drew ?_) | (refine below_drewN' ?_ _) | (refine below_alloc' ?_ _) | (refine Below.setCell ?_ (by first | exact Nat.le_refl _ | (simp; done) | (simp; omega)) _)))).mono ?_
  rintro e w1 ⟨hb, h⟩
  have HB := Lib.hid (below_trans (show Below w.heap.size w _ from (by repeat (first | exact Below.refl _ _ | (refine Below.drew ?_) | (refine below_drewN' ?_ _) | (refine below_alloc' ?_ _) | (refine Below.setCell ?_ (by first | exact Nat.le_refl _ | (simp; done) | (simp; omega)) _)))) hb)
  rcases h with ⟨hg, rfl⟩ | ⟨x, g, _, rfl, hg, _⟩
  · have HD := Lib.hid (del_absent hg)
    clear hg hb
    go_wp2_with fail
    go_ret
    exact ⟨t, rfl, by rw [HD.out]; exact HT0.out.bel HB.out, HB.out⟩
  · have HG := Lib.hid hg
    clear hg hb
    go_wp2_with fail
    go_ret
    exact ⟨g, rfl, HG.out, HB.out⟩
theorem mput_any (w : World) (t k : Nat) (x : Option Nat) (p : List Nat) (l : List En) (vp : Value) (ht : TrR w t k l) (hp : RdU w vp (pti p)) (hl : p.length = k) (ho : ∀ c ∈ p, c < 2 ^ 64) (hv : ∀ v, x = some v → v < 2 ^ 64) :
    Calls Tryz.prog 247 #[.pointer (some ⟨t, 0, none⟩), vp, valV x] w fun e w' => TreP w k (putV p x l) e w' := by
  cases x with
  | some v => exact mput_some w t k v p l vp ht hp hl ho (hv v rfl)
  | none => exact mput_none w t k p l vp ht hp hl ho

theorem mchk_nil0 (w : World) (q r : Option Addr) : Calls Tryz.prog 97 #[.pointer none, .pointer q, .pointer r] w fun e w' => e = .returned (.int .i64 1) ∧ w' = w := by
  go_enter Tryz.func97, Tryz.ntmps97
  go_wp2_with fail
  go_ret
  exact ⟨rfl, rfl⟩
theorem mchk_nil1 (w : World) (a : Addr) (r : Option Addr) : Calls Tryz.prog 97 #[.pointer (some a), .pointer none, .pointer r] w fun e w' => e = .returned (.int .i64 1) ∧ w' = w := by
  go_enter Tryz.func97, Tryz.ntmps97
  go_wp2_with fail
  go_ret
  exact ⟨rfl, rfl⟩
theorem mchk_nil2 (w : World) (a b : Addr) : Calls Tryz.prog 97 #[.pointer (some a), .pointer (some b), .pointer none] w fun e w' => e = .returned (.int .i64 1) ∧ w' = w := by
  go_enter Tryz.func97, Tryz.ntmps97
  go_wp2_with fail
  go_ret
  exact ⟨rfl, rfl⟩
theorem mchk_ok (w : World) (o a b k : Nat) (lo la lb : List En) (ho : TrR w o k lo) (ha : TrR w a k la) (hb : TrR w b k lb) :
    Calls Tryz.prog 97 #[.pointer (some ⟨o, 0, none⟩), .pointer (some ⟨a, 0, none⟩), .pointer (some ⟨b, 0, none⟩)] w fun e w' => e = .returned (.int .i64 0) ∧ w' = w := by
  have H1 := Lib.hid (tk_any w o k ho.c0)
  have H2 := Lib.hid (tk_any w a k ha.c0)
  have H3 := Lib.hid (tk_any w b k hb.c0)
  clear ho ha hb
  go_enter Tryz.func97, Tryz.ntmps97
  go_wp2_with fail
  refine H1.out.mono ?_
  rintro e w1 ⟨rfl, hw⟩
  obtain rfl := hw.symm
  clear hw
  go_wp2_with fail
  refine H2.out.mono ?_
  rintro e w1 ⟨rfl, hw⟩
  obtain rfl := hw.symm
  clear hw
  go_wp2_with fail
  refine H1.out.mono ?_
  rintro e w1 ⟨rfl, hw⟩
  obtain rfl := hw.symm
  clear hw
  go_wp2_with fail
  refine H3.out.mono ?_
  rintro e w1 ⟨rfl, hw⟩
  obtain rfl := hw.symm
  clear hw
  go_wp2_with fail
  go_ret
  exact ⟨rfl, rfl⟩
end Go.Proofs.YtdkomhmciihkiaaGreat
/-! MrgD -/
namespace Go.Proofs.YtdkomhmciihkiaaGreat
open Go.RowKit
set_option linter.unusedVariables false
set_option linter.unusedSimpArgs false
set_option maxRecDepth 100000

/-- nodes that are there have one level and prefix, and kids -/
def EvOk (rs : List (Option Nat × List En)) : Prop := ∃ (n : Nat) (pre : List Nat), ∀ x ∈ rs, x.1 ≠ none → lev x.2 = n + 1 ∧ preL x.2 = pre
/-- what is known of the first one behind some of them -/
def FstOk (w : World) (k : Nat) (rs : List (Option Nat × List En)) (f : Option Nat) : Prop :=
  (f = none ∧ ∀ x ∈ rs, x.1 = none) ∨ ∃ (b : Nat) (l : List En), f = some b ∧ Nd w k b l ∧ 0 < lev l ∧ ∀ x ∈ rs, x.1 ≠ none → lev x.2 = lev l ∧ preL x.2 = preL l
def EvP (W : World) (rs : List (Option Nat × List En)) (e : Ending) (w' : World) : Prop := ∃ b, e = .returned (.bool b) ∧ (b = true → EvOk rs) ∧ Below W.heap.size W w'
theorem FstOk.ev {w : World} {k : Nat} {rs : List (Option Nat × List En)} {f : Option Nat} (h : FstOk w k rs f) : EvOk rs := by
  rcases h with ⟨_, h⟩ | ⟨b, l, _, _, h0, h⟩
  · exact ⟨0, [], fun x hx hn => absurd (h x hx) hn⟩
  · exact ⟨lev l - 1, preL l, fun x hx hn => ⟨by rw [(h x hx hn).1]; omega, (h x hx hn).2⟩⟩
set_option maxHeartbeats 4000000 in
theorem even_any' (w : World) (k S : Nat) (rs : List (Option Nat × List En)) (hs : rs.length ≤ 3) (hc : ∀ j (h : j < rs.length), w.cell? ⟨S, j, none⟩ = some (pv rs[j].1)) (hr : ∀ x ∈ rs, RtN w k x.1 x.2) (k1 : 1 ≤ k) (k16 : k ≤ 16) :
    Calls Tryz.prog 216 #[.slice (some ⟨S, 0, none⟩) rs.length rs.length] w fun e w' => EvP w rs e w' := by
  have HC := Lib.hid hc
  have HRS := Lib.hid hr
  have HK := Lib.hid (And.intro k1 k16)
  have HS := Lib.hid hs
  obtain ⟨N, hN⟩ : ∃ N, rs.length = N := ⟨_, rfl⟩
  have HN := Lib.hid hN
  rw [hN] at HS ⊢
  clear hc hr k1 k16 hs hN
  go_enter Tryz.func216, Tryz.ntmps216
  go_wp2_with fail
  go_loopw [3, 5, 8] (fun vf _ i wr => ∃ (j : Nat) (f : Option Nat), j ≤ N ∧ i = .int .i64 j ∧ vf = pv f ∧ FstOk w k (rs.take j) f ∧ Below w.heap.size w wr) (fun _ _ i _ => N - (intOf i).toNat)
  case atStart => exact ⟨0, none, Nat.zero_le _, rfl, rfl, .inl ⟨rfl, fun x hx => by simp at hx⟩, Below.refl _ _⟩
  case round =>
    obtain ⟨j, f, hj, rfl, rfl, hf, hb⟩ := hrel
    have HB := Lib.hid hb
    have HF := Lib.hid hf
    by_cases hlt : j < N
    · have h3 : (j : Int) < (N : Int) := by omega
      have h5 : (0 : Int) ≤ (j : Int) := by omega
      have hjl : j < rs.length := by rw [HN.out]; exact hlt
      have HW := Lib.hid (show wrap64 ((j : Int) + 1) = ((j + 1 : Nat) : Int) by have := HS.out; unfold wrap64; omega)
      have k0 := Below.keeps hb _ _ (HC.out j hjl)
      have hsl := World.block_lt_of_cell? wr _ k0
      have hrj := HRS.out rs[j] (List.getElem_mem hjl)
      have HT := Lib.hid (show rs.take (j + 1) = rs.take j ++ [rs[j]] from (List.take_append_getElem hjl).symm)
      generalize rs[j] = x at *
      obtain ⟨r, l⟩ := x
      simp only at k0 hrj
      have HRJ := Lib.hid hrj
      clear hf hb hjl
      cases r with
      | none =>
        rw [pv_none] at k0
        clear hrj
        obtain ⟨q, hq⟩ := pv_ex f
        rw [hq]
        go_wp2_with fail
        go_roundw
        case rel => exact ⟨j + 1, f, by omega, by rw [HW.out], hq.symm, by
          rw [HT.out]
          rcases HF.out with ⟨e, h⟩ | ⟨b, l', e, h1, h2, h⟩
          · exact .inl ⟨e, fun x hx => by rcases List.mem_append.1 hx with hx | hx; exact h x hx; rw [List.mem_singleton.1 hx]⟩
          · exact .inr ⟨b, l', e, h1, h2, fun x hx hn => by rcases List.mem_append.1 hx with hx | hx; exact h x hx hn; rw [List.mem_singleton.1 hx] at hn; exact absurd rfl hn⟩, HB.out⟩
        case measure => (first | (rw [intOf_of' HW.out, intOf_of' rfl]; omega) | (simp [intOf]; omega) | (simp [intOf] <;> omega))
      | some b =>
        rw [pv_some] at k0
        obtain ⟨vv, kp, hh⟩ := Nd.hd hrj
        obtain ⟨u, c1, hu⟩ := hh.c1
        obtain ⟨q1, q2, q3⟩ := Nd.pre_ok hrj
        have HLV := Lib.hid (fun W (h : Below w.heap.size w W) => nlev_any W b _ (Below.keeps h _ _ hh.c0))
        have HPF := Lib.hid (fun W (h : Below w.heap.size w W) => npref_any W b (preL l) u (Below.keeps h _ _ c1) (hu.below h) (by rw [q1]; exact HK.out.1) (by rw [q1]; exact HK.out.2))
        have HQ := Lib.hid (And.intro q1 (And.intro q2 q3))
        clear hrj hh c1 hu q1 q2 q3
        by_cases h0 : (lev l : Int) - 1 < 0
        · obtain ⟨q, hq⟩ := pv_ex f
          rw [hq]
          go_wp2_with fail
          refine (HLV.out _ HB.out).mono ?_
          rintro e w1 ⟨rfl, hw⟩
          obtain rfl := hw.symm
          clear hw
          go_wp2_with fail
          go_ret
          exact ⟨false, rfl, (fun h => by cases h), HB.out⟩
        · have hlv : 0 < lev l := by omega
          cases f with
          | none =>
            simp only [pv_none]
            go_wp2_with fail
            refine (HLV.out _ HB.out).mono ?_
            rintro e w1 ⟨rfl, hw⟩
            obtain rfl := hw.symm
            clear hw
            go_wp2_with fail
            go_roundw
            case rel => exact ⟨j + 1, some b, by omega, by rw [HW.out], rfl, by
              rw [HT.out]
              rcases HF.out with ⟨e, h⟩ | ⟨b', l', e, _⟩
              · exact .inr ⟨b, l, rfl, HRJ.out, hlv, fun x hx hn => by rcases List.mem_append.1 hx with hx | hx; exact absurd (h x hx) hn; rw [List.mem_singleton.1 hx]; exact ⟨rfl, rfl⟩⟩
              · exact (nomatch e), HB.out⟩
            case measure => (first | (rw [intOf_of' HW.out, intOf_of' rfl]; omega) | (simp [intOf]; omega) | (simp [intOf] <;> omega))
          | some bf =>
            obtain ⟨lf, hnf, hlf, hall⟩ : ∃ lf, Nd w k bf lf ∧ 0 < lev lf ∧ ∀ x ∈ rs.take j, x.1 ≠ none → lev x.2 = lev lf ∧ preL x.2 = preL lf := by
              rcases HF.out with ⟨e, _⟩ | ⟨b', l', e, h1, h2, h3⟩
              · cases e
              · injection e with e
                subst e
                exact ⟨l', h1, h2, h3⟩
            obtain ⟨vv, kp, hhf⟩ := hnf.hd
            have HLF := Lib.hid (fun W (h : Below w.heap.size w W) => nlev_any W bf _ (Below.keeps h _ _ hhf.c0))
            have HCV := Lib.hid (fun W v (h : Below w.heap.size w W) (hv : RdU W v (pti (preL l))) => ncov_any W k bf lf (preL l) v (hnf.bel h) hv HQ.out.1 HQ.out.2.1 HK.out.1 HK.out.2)
            have HNF := Lib.hid (And.intro hnf (And.intro hlf hall))
            clear hnf hhf hlf hall
            simp only [pv_some]
            by_cases hne : (lev lf : Int) - 1 = (lev l : Int) - 1
            · obtain ⟨cv, hcv⟩ : ∃ cv, cov lf (preL l) = cv := ⟨_, rfl⟩
              rw [hcv] at HCV
              have HCVE := Lib.hid hcv
              have hne' : (((lev lf : Int) - 1) != ((lev l : Int) - 1)) = false := by simp; omega
              have HNE := Lib.hid hne
              clear hcv hne
              obtain ⟨z1, hz1⟩ : ∃ z, (lev lf : Int) - 1 = z := ⟨_, rfl⟩
              obtain ⟨z2, hz2⟩ : ∃ z, (lev l : Int) - 1 = z := ⟨_, rfl⟩
              rw [hz1] at HLF hne'
              rw [hz2] at HLV hne' h0
              have h0' : ¬ z2 < 0 := h0
              clear hz1 hz2 h0
              go_wp2_with fail
              refine (HLV.out _ HB.out).mono ?_
              rintro e w1 ⟨rfl, hw⟩
              obtain rfl := hw.symm
              clear hw
              go_wp2_with fail
              refine (HLF.out _ HB.out).mono ?_
              rintro e w1 ⟨rfl, hw⟩
              obtain rfl := hw.symm
              clear hw
              go_wp2_with fail
              refine (HLV.out _ HB.out).mono ?_
              rintro e w1 ⟨rfl, hw⟩
              obtain rfl := hw.symm
              clear hw
              go_wp2_with fail
              refine (HPF.out _ HB.out).mono ?_
              rintro e w2 ⟨u2, rfl, hu2, hb2⟩
              have HB2 := Lib.hid (HB.out.trans (hb2.mono HB.out.size))
              have HU2 := Lib.hid hu2
              obtain ⟨A2, c2, rfl, _⟩ := RdU.point hu2.rd
              clear hu2 hb2
              go_wp2_with fail
              refine (HCV.out _ _ HB2.out HU2.out.rd).mono ?_
              rintro e w3 ⟨rfl, hw⟩
              obtain rfl := hw.symm
              clear hw
              cases cv with
              | false =>
                go_wp2_with fail
                go_ret
                exact ⟨false, rfl, (fun h => by cases h), HB2.out⟩
              | true =>
                go_wp2_with fail
                go_roundw
                case rel => exact ⟨j + 1, some bf, by omega, by rw [HW.out], rfl, by
                  rw [HT.out]
                  refine .inr ⟨bf, lf, rfl, HNF.out.1, HNF.out.2.1, fun x hx hn => ?_⟩
                  rcases List.mem_append.1 hx with hx | hx
                  · exact HNF.out.2.2 x hx hn
                  · rw [List.mem_singleton.1 hx]
                    have h1 : lev l = lev lf := by have := HNE.out; omega
                    have h2 := of_decide_eq_true HCVE.out
                    rw [← h1, HQ.out.2.2] at h2
                    exact ⟨h1, h2⟩, HB2.out⟩
                case measure => (first | (rw [intOf_of' HW.out, intOf_of' rfl]; omega) | (simp [intOf]; omega) | (simp [intOf] <;> omega))
            · have hne' : (((lev lf : Int) - 1) != ((lev l : Int) - 1)) = true := by simp; omega
              obtain ⟨z1, hz1⟩ : ∃ z, (lev lf : Int) - 1 = z := ⟨_, rfl⟩
              obtain ⟨z2, hz2⟩ : ∃ z, (lev l : Int) - 1 = z := ⟨_, rfl⟩
              rw [hz1] at HLF hne'
              rw [hz2] at HLV hne' h0
              have h0' : ¬ z2 < 0 := h0
              clear hz1 hz2 h0 hne
              go_wp2_with fail
              refine (HLV.out _ HB.out).mono ?_
              rintro e w1 ⟨rfl, hw⟩
              obtain rfl := hw.symm
              clear hw
              go_wp2_with fail
              refine (HLF.out _ HB.out).mono ?_
              rintro e w1 ⟨rfl, hw⟩
              obtain rfl := hw.symm
              clear hw
              go_wp2_with fail
              refine (HLV.out _ HB.out).mono ?_
              rintro e w1 ⟨rfl, hw⟩
              obtain rfl := hw.symm
              clear hw
              go_wp2_with fail
              go_ret
              exact ⟨false, rfl, (fun h => by cases h), HB.out⟩
    · have h3 : ¬ (j : Int) < (N : Int) := by omega
      have HE := Lib.hid (show rs.take j = rs from List.take_of_length_le (by rw [HN.out]; omega))
      clear hf hb
      obtain ⟨q, hq⟩ := pv_ex f
      rw [hq]
      go_wp2_with fail
      go_ret
      exact ⟨true, rfl, (fun _ => by have := HF.out; rw [HE.out] at this; exact this.ev), HB.out⟩

/-- a root is handed back -/
def RtP (W : World) (k : Nat) (l : List En) (e : Ending) (w' : World) : Prop := ∃ r : Option Nat, e = .returned (pv r) ∧ RtN w' k r l ∧ Below W.heap.size W w'
set_option maxHeartbeats 2000000 in
theorem mwith_any (w : World) (k n x : Nat) (pre : List Nat) (r rk : Option Nat) (R m : List En) (hr : RtN w k r R) (hk : RtN w k rk m) (hR : AtLev k n pre R) (hm : AtLev k n pre m) (hn : n < 64) (ha : ∀ e ∈ R, Zb.addr e.p n < x) (hx : ∀ e ∈ m, Zb.addr e.p n = x) (k1 : 1 ≤ k) (k16 : k ≤ 16) :
    Calls Tryz.prog 218 #[pv r, .int .i64 (n : Nat), pv rk] w fun e w' => RtP w k (R ++ m) e w' := by
  cases rk with
  | none =>
    obtain rfl : m = [] := hk
    have HR := Lib.hid hr
    obtain ⟨q, hq⟩ := pv_ex r
    rw [hq, pv_none, List.append_nil]
    have HQ := Lib.hid hq
    clear hr hR hm hn ha hx k1 k16 hq
    go_enter Tryz.func218, Tryz.ntmps218
    go_wp2_with fail
    go_ret
    exact ⟨r, by rw [HQ.out]; rfl, HR.out, Below.refl _ _⟩
  | some b =>
    cases r with
    | none =>
      obtain rfl : R = [] := hr
      have HR := Lib.hid hk
      rw [pv_none, pv_some, List.nil_append]
      clear hk hR hm hn ha hx k1 k16
      go_enter Tryz.func218, Tryz.ntmps218
      go_wp2_with fail
      go_ret
      exact ⟨some b, rfl, HR.out, Below.refl _ _⟩
    | some g =>
      have hg : Nd w k g R := hr
      have hb : Nd w k b m := hk
      obtain ⟨vv, kp, hh⟩ := hg.hd
      have HLV := Lib.hid (nlev_any w g _ hh.c0)
      rw [pv_some, pv_some]
      rcases lev_split hR hn hg.ne with ⟨hl, a0, ha0⟩ | ⟨hl, ks, hks, hcat⟩
      · have hlt : ((lev R : Int) - 1) < (n : Int) := by omega
        have m1 := head!_mem hg.ne
        have haa : a0 < x := by rw [← ha0 _ m1]; exact ha _ m1
        have hkd : Kd k n pre [(a0, R), (x, m)] := Kd.pair hn haa hg.ne hb.ne hR.1 hm.1 hR.2 hm.2 ha0 hx
        have HBP := Lib.hid (bld_pair w k n g b pre [(a0, R), (x, m)] hkd k1 k16 (by simp) hg hb)
        obtain ⟨z, hz⟩ : ∃ z, (lev R : Int) - 1 = z := ⟨_, rfl⟩
        rw [hz] at HLV hlt
        rw [show cat (([(a0, R), (x, m)] : List (Nat × List En)).take 2) = R ++ m by unfold cat; simp] at HBP
        clear hr hk hR hm hn ha hx k1 k16 hg hb hh hl ha0 hkd hz m1 haa
        go_enter Tryz.func218, Tryz.ntmps218
        go_wp2_with fail
        refine HLV.out.mono ?_
        rintro e w1 ⟨rfl, hw⟩
        obtain rfl := hw.symm
        clear hw
        go_wp2_with fail
        refine HBP.out.mono ?_
        rintro e w2 ⟨g2, rfl, hn2, hb2⟩
        have HF := Lib.hid (And.intro hn2 hb2)
        clear hn2 hb2
        go_wp2_with fail
        go_ret
        exact ⟨some g2, rfl, HF.out.1, HF.out.2⟩
      · have hlt : ¬ ((lev R : Int) - 1) < (n : Int) := by omega
        have hkd : Kd k n pre (ks ++ [(x, m)]) := hks.snoc hm hb.ne hx fun y hy => by
          obtain ⟨e, he⟩ := List.exists_mem_of_ne_nil _ (hks.ne y hy)
          rw [← hks.adr y hy e he]
          exact ha e (by rw [← hcat]; exact mem_cat.2 ⟨y, hy, he⟩)
        have HBP := Lib.hid (bld_with w k n g b ks.length pre (ks ++ [(x, m)]) hkd hks.two (by simp) (by rw [List.take_left]; rw [hcat]; exact hg) (by simpa using hb))
        obtain ⟨z, hz⟩ : ∃ z, (lev R : Int) - 1 = z := ⟨_, rfl⟩
        rw [hz] at HLV hlt
        rw [show cat ((ks ++ [(x, m)]).take (ks.length + 1)) = R ++ m by rw [List.take_of_length_le (by simp), ← hcat]; unfold cat; rw [List.flatMap_append]; simp] at HBP
        clear hr hk hR hm hn ha hx k1 k16 hg hb hh hl hkd hz hks hcat
        go_enter Tryz.func218, Tryz.ntmps218
        go_wp2_with fail
        refine HLV.out.mono ?_
        rintro e w1 ⟨rfl, hw⟩
        obtain rfl := hw.symm
        clear hw
        go_wp2_with fail
        refine HBP.out.mono ?_
        rintro e w2 ⟨g2, rfl, hn2, hb2⟩
        have HF := Lib.hid (And.intro hn2 hb2)
        clear hn2 hb2
        go_wp2_with fail
        go_ret
        exact ⟨some g2, rfl, HF.out.1, HF.out.2⟩
end Go.Proofs.YtdkomhmciihkiaaGreat
/-! DifP -/
namespace Go.Proofs.YtdkomhmciihkiaaGreat
open Go.RowKit
set_option linter.unusedVariables false

def goneC (e : En) : Ch := ⟨e.p, true, false, e.v, 0⟩
def comeC (e : En) : Ch := ⟨e.p, false, true, 0, e.v⟩
def chgE : Option En → Option En → Option Ch
  | none, none => none
  | some x, none => some (goneC x)
  | none, some y => some (comeC y)
  | some x, some y => if x.v = y.v then none else some ⟨x.p, true, true, x.v, y.v⟩
theorem Et.look_p {k : Nat} {l : List En} (h : Et k l) {n : Nat} {x : En} (hx : Od.look En.key l n = some x) {p : List Nat} (hp : p.length = k) (ho : ∀ c ∈ p, c < 2 ^ 64) (hn : pkey p = n) : x.p = p := by
  obtain ⟨h1, h2⟩ := Od.look_some hx
  exact key_pt h hp ho h1 (by rw [h2, hn])
theorem chg_look {k : Nat} {a b : List En} (ha : Et k a) (hb : Et k b) (n : Nat) : Od.look Ch.key (changesL a b) n = chgE (Od.look En.key a n) (Od.look En.key b n) := by
  obtain ⟨_, h2⟩ := changesL_spec ha hb
  obtain ⟨p1, p2⟩ := pointsL_spec hb a ha
  have hi := p2 n
  rw [h2 n]
  cases e : Od.look En.key (pointsL a b) n with
  | none =>
    rw [e] at hi
    cases ea : Od.look En.key a n with
    | some x => rw [ea] at hi; simp at hi
    | none =>
      cases eb : Od.look En.key b n with
      | some y => rw [ea, eb] at hi; simp at hi
      | none => rfl
  | some z =>
    rw [e] at hi
    obtain ⟨hz1, hz2⟩ := Od.look_some e
    have hzk : pkey z.p = n := hz2
    have hzl := p1.len z hz1
    have hzo := p1.ok z hz1
    show changeL a b z.p = _
    unfold changeL getE
    rw [hzk]
    cases ea : Od.look En.key a n with
    | none =>
      cases eb : Od.look En.key b n with
      | none => rw [ea, eb] at hi; simp at hi
      | some y =>
        have e1 := hb.look_p eb hzl hzo hzk
        simp [changeOf, chgE, comeC, e1]
    | some x =>
      have e1 := ha.look_p ea hzl hzo hzk
      cases eb : Od.look En.key b n with
      | none => simp [changeOf, chgE, goneC, e1]
      | some y =>
        simp only [changeOf, chgE, Option.map_some, Option.isSome_some, Option.getD_some, e1]
        by_cases hv : x.v = y.v
        · simp [hv]
        · rw [if_neg hv, if_pos (by simp; omega)]
theorem chg_asc {k : Nat} {a b : List En} (ha : Et k a) (hb : Et k b) : Od.Asc Ch.key (changesL a b) := (changesL_spec ha hb).1
theorem look_append {α : Type} (key : α → Nat) (l m : List α) (n : Nat) : Od.look key (l ++ m) n = (Od.look key l n).or (Od.look key m n) := List.find?_append
theorem look_map' {α β : Type} {key : α → Nat} {key' : β → Nat} (f : α → β) (h : ∀ x, key' (f x) = key x) (l : List α) (n : Nat) : Od.look key' (l.map f) n = (Od.look key l n).map f := by
  induction l with
  | nil => rfl
  | cons x l ih =>
    rw [List.map_cons, Od.look_cons, Od.look_cons, h, ih]
    split <;> rfl
theorem asc_map {α β : Type} {key : α → Nat} {key' : β → Nat} (f : α → β) (h : ∀ x, key' (f x) = key x) {l : List α} (hl : Od.Asc key l) : Od.Asc key' (l.map f) := by
  unfold Od.Asc
  rw [List.pairwise_map]
  exact hl.imp fun {a b} hab => by rw [h, h]; exact hab
theorem chg_gone {k : Nat} {a : List En} (ha : Et k a) : changesL a [] = a.map goneC := by
  refine Od.ext (key := Ch.key) (chg_asc ha (Et.nil k)) (asc_map goneC (fun _ => rfl) ha.asc) fun n => ?_
  rw [chg_look ha (Et.nil k), look_map' goneC (key := En.key) (fun _ => rfl)]
  cases Od.look En.key a n <;> rfl
theorem chg_come {k : Nat} {b : List En} (hb : Et k b) : changesL [] b = b.map comeC := by
  refine Od.ext (key := Ch.key) (chg_asc (Et.nil k) hb) (asc_map comeC (fun _ => rfl) hb.asc) fun n => ?_
  rw [chg_look (Et.nil k) hb, look_map' comeC (key := En.key) (fun _ => rfl)]
  cases Od.look En.key b n <;> rfl
theorem chg_self {k : Nat} {a : List En} (ha : Et k a) : changesL a a = [] := by
  refine Od.ext (key := Ch.key) (chg_asc ha ha) List.Pairwise.nil fun n => ?_
  rw [chg_look ha ha]
  cases Od.look En.key a n with
  | none => rfl
  | some x => simp [chgE, Od.look_nil]
theorem chg_mem {k : Nat} {a b : List En} (ha : Et k a) (hb : Et k b) {c : Ch} (hc : c ∈ changesL a b) : (∃ x ∈ a, x.key = c.key) ∨ (∃ y ∈ b, y.key = c.key) := by
  have h := Od.look_mem (key := Ch.key) (chg_asc ha hb) hc
  rw [chg_look ha hb] at h
  cases ea : Od.look En.key a c.key with
  | some x => exact .inl ⟨x, (Od.look_some ea).1, (Od.look_some ea).2⟩
  | none =>
    cases eb : Od.look En.key b c.key with
    | some y => exact .inr ⟨y, (Od.look_some eb).1, (Od.look_some eb).2⟩
    | none => rw [ea, eb] at h; cases h
/-- all of the first two lie ahead of all of the other two -/
def Ahead (a b : List En) : Prop := ∀ x ∈ a, ∀ y ∈ b, x.key < y.key
theorem Et.app {k : Nat} {a b : List En} (ha : Et k a) (hb : Et k b) (h : Ahead a b) : Et k (a ++ b) :=
  ⟨List.pairwise_append.2 ⟨ha.asc, hb.asc, h⟩, fun e he => (List.mem_append.1 he).elim (ha.len e) (hb.len e), fun e he => (List.mem_append.1 he).elim (ha.ok e) (hb.ok e)⟩
theorem chg_append {k : Nat} {a1 a2 b1 b2 : List En} (h1 : Et k a1) (h2 : Et k a2) (h3 : Et k b1) (h4 : Et k b2) (x1 : Ahead a1 a2) (x2 : Ahead a1 b2) (x3 : Ahead b1 a2) (x4 : Ahead b1 b2) :
    changesL (a1 ++ a2) (b1 ++ b2) = changesL a1 b1 ++ changesL a2 b2 := by
  have ea := h1.app h2 x1
  have eb := h3.app h4 x4
  refine Od.ext (key := Ch.key) (chg_asc ea eb) (List.pairwise_append.2 ⟨chg_asc h1 h3, chg_asc h2 h4, fun c hc d hd => ?_⟩) fun n => ?_
  · rcases chg_mem h1 h3 hc with ⟨x, hx, ex⟩ | ⟨x, hx, ex⟩ <;> rcases chg_mem h2 h4 hd with ⟨y, hy, ey⟩ | ⟨y, hy, ey⟩
    · have := x1 x hx y hy; omega
    · have := x2 x hx y hy; omega
    · have := x3 x hx y hy; omega
    · have := x4 x hx y hy; omega
  · rw [chg_look ea eb, look_append, look_append, look_append, chg_look h1 h3, chg_look h2 h4]
    have key : ∀ {l m : List En}, Ahead l m → ∀ {x}, Od.look En.key l n = some x → Od.look En.key m n = none := fun hlm x hx => by
      obtain ⟨q1, q2⟩ := Od.look_some hx
      exact Od.look_eq_none fun y hy => by have := hlm x q1 y hy; omega
    cases e1 : Od.look En.key a1 n with
    | some x =>
      rw [key x1 e1, key x2 e1]
      cases e3 : Od.look En.key b1 n with
      | some y => show chgE (some x) (some y) = (chgE (some x) (some y)).or none; rw [Option.or_none]
      | none => rfl
    | none =>
      cases e3 : Od.look En.key b1 n with
      | some y => rw [key x3 e3, key x4 e3]; rfl
      | none => rfl
theorem Ahead.nil_l (b : List En) : Ahead [] b := fun x hx => by simp at hx
theorem Ahead.nil_r (a : List En) : Ahead a [] := fun x _ y hy => by simp at hy
theorem chg_before {k : Nat} {a b : List En} (ha : Et k a) (hb : Et k b) (h : Ahead a b) : changesL a b = a.map goneC ++ b.map comeC := by
  have := chg_append ha (Et.nil k) (Et.nil k) hb (Ahead.nil_r a) h (Ahead.nil_l _) (Ahead.nil_l _)
  rw [List.append_nil, List.nil_append, chg_gone ha, chg_come hb] at this
  exact this
theorem chg_behind {k : Nat} {a b : List En} (ha : Et k a) (hb : Et k b) (h : Ahead b a) : changesL a b = b.map comeC ++ a.map goneC := by
  have := chg_append (Et.nil k) ha hb (Et.nil k) (Ahead.nil_l _) (Ahead.nil_l _) h (Ahead.nil_r b)
  rw [List.append_nil, List.nil_append, chg_gone ha, chg_come hb] at this
  exact this
theorem changes_len {k : Nat} {a b : List En} (ha : Et k a) (hb : Et k b) : (changesL a b).length ≤ a.length + b.length := by
  have h1 : (pointsL a b).length ≤ a.length + b.length := by
    have key : ∀ (b a : List En), (pointsL a b).length ≤ a.length + b.length := by
      intro b
      induction b with
      | nil => intro a; exact Nat.le_refl _
      | cons e b ih =>
        intro a
        unfold pointsL
        refine Nat.le_trans (ih _) ?_
        have : (insE e.p 0 a).length ≤ a.length + 1 := Od.ins_length
        simp only [List.length_cons]
        omega
    exact key b a
  exact Nat.le_trans (List.length_filterMap_le _ _) h1
end Go.Proofs.YtdkomhmciihkiaaGreat
/-! WlkP -/
namespace Go.Proofs.YtdkomhmciihkiaaGreat
open Go.RowKit
set_option linter.unusedVariables false

theorem fromI_zero (l : List (Nat × Nat)) : fromI l 0 = l[0]? := by
  unfold fromI
  cases l with
  | nil => rfl
  | cons x l => simp
theorem fromI_skip {x : Nat × Nat} {l : List (Nat × Nat)} {a : Int} (h : (x.1 : Int) < a) : fromI (x :: l) a = fromI l a := by
  unfold fromI
  rw [List.find?_cons_of_neg]
  simp; omega
theorem fromI_hit {x : Nat × Nat} {l : List (Nat × Nat)} {a : Int} (h : a ≤ (x.1 : Int)) : fromI (x :: l) a = some x := by
  unfold fromI
  rw [List.find?_cons_of_pos]
  simpa using h
theorem fromI_next {l : List (Nat × Nat)} (h : Od.Asc ka l) (j : Nat) (hj : j < l.length) : fromI l (((l[j].1 : Nat) : Int) + 1) = l[j + 1]? := by
  induction l generalizing j with
  | nil => simp at hj
  | cons x l ih =>
    cases j with
    | zero =>
      rw [List.getElem_cons_zero, fromI_skip (by omega)]
      cases l with
      | nil => rfl
      | cons y l =>
        have : x.1 < y.1 := h.head y (List.mem_cons_self ..)
        rw [fromI_hit (by omega)]
        rfl
    | succ j =>
      have hj' : j < l.length := by simpa using hj
      have : x.1 < l[j].1 := h.head _ (List.getElem_mem hj')
      rw [List.getElem_cons_succ, fromI_skip (by omega), ih h.tail j hj']
      rfl
/-- what From hands back: the address, the kid -/
def frA (o : Option (Nat × Nat)) : Value := match o with | some x => .int .i64 (x.1 : Nat) | none => .int .i64 0
def frK (o : Option (Nat × Nat)) : Value := match o with | some x => pv (some x.2) | none => .pointer none
theorem frA_some (x : Nat × Nat) : frA (some x) = .int .i64 (x.1 : Nat) := rfl
theorem frK_some (x : Nat × Nat) : frK (some x) = .pointer (some ⟨x.2, 0, none⟩) := rfl
theorem frA_none : frA none = .int .i64 0 := rfl
theorem frK_none : frK none = .pointer none := rfl
theorem nfromV_eq (o : Option (Nat × Nat)) : nfromV o = .tuple #[frA o, frK o] := by cases o <;> rfl
def frO (ks : List (Nat × Nat × List En)) (j : Nat) : Option (Nat × Nat) := (ks.map kb)[j]?
theorem frO_some {ks : List (Nat × Nat × List En)} {j : Nat} (h : j < ks.length) : frO ks j = some (ks[j].1, ks[j].2.1) := by
  unfold frO; rw [List.getElem?_map, List.getElem?_eq_getElem h]; rfl
theorem frO_none {ks : List (Nat × Nat × List En)} {j : Nat} (h : ¬ j < ks.length) : frO ks j = none := by
  unfold frO; rw [List.getElem?_map, List.getElem?_eq_none (by omega)]; rfl
/-- how far there is to go -/
def kmu (a k : Value) : Nat := match k with | .pointer none => 0 | _ => 65537 - (intOf a).toNat
theorem kmu_some (x b : Nat) : kmu (.int .i64 (x : Nat)) (.pointer (some ⟨b, 0, none⟩)) = 65537 - x := by
  show 65537 - (intOf (.int .i64 (x : Nat))).toNat = _
  rw [intOf_nat, Int.toNat_natCast]
/-- From, kid by kid -/
structure FromK (w : World) (b : Nat) (ks : List (Nat × Nat × List En)) : Prop where
  zero : ∀ w', Below w.heap.size w w' → Calls Tryz.prog 178 #[.pointer (some ⟨b, 0, none⟩), .int .i64 0] w' fun e w'' => e = .returned (.tuple #[frA (frO ks 0), frK (frO ks 0)]) ∧ Below w'.heap.size w' w''
  next : ∀ j (hj : j < ks.length) w', Below w.heap.size w w' → Calls Tryz.prog 178 #[.pointer (some ⟨b, 0, none⟩), .int .i64 (((ks[j].1 : Nat) : Int) + 1)] w' fun e w'' => e = .returned (.tuple #[frA (frO ks (j + 1)), frK (frO ks (j + 1))]) ∧ Below w'.heap.size w' w''
  lt : ∀ j (hj : j < ks.length), ks[j].1 < 65536
  mu : ∀ j (hj : j < ks.length), kmu (frA (frO ks (j + 1))) (frK (frO ks (j + 1))) < kmu (frA (frO ks j)) (frK (frO ks j))
theorem FromK.of {w : World} {b s k : Nat} {ks : List (Nat × Nat × List En)} (c3 : w.cell? ⟨b, 3, none⟩ = some (.pointer (some ⟨s, 0, none⟩))) (hs : SlR w s k (ks.map kb)) : FromK w b ks := by
  have hasc := hs.rw'.asc
  have hlt : ∀ j (hj : j < ks.length), ks[j].1 < 65536 := fun j hj => by
    have h1 := hs.rw'.lt (kb ks[j]) (List.mem_map_of_mem (List.getElem_mem hj))
    have h2 := pow_le k hs.k16
    have : (kb ks[j]).1 = ks[j].1 := rfl
    omega
  refine ⟨fun w' hb => ?_, fun j hj w' hb => ?_, hlt, fun j hj => ?_⟩
  · have := nfrom_any w' b s k (ks.map kb) 0 (Below.keeps hb _ _ c3) (hs.below hb)
    rw [nfromV_eq, fromI_zero] at this
    exact this
  · have := nfrom_any w' b s k (ks.map kb) (((ks[j].1 : Nat) : Int) + 1) (Below.keeps hb _ _ c3) (hs.below hb)
    have h2 := fromI_next hasc j (by rw [List.length_map]; exact hj)
    rw [List.getElem_map] at h2
    rw [nfromV_eq, show ((ks[j].1 : Nat) : Int) = (((kb ks[j]).1 : Nat) : Int) from rfl, h2] at this
    exact this
  · rw [frO_some hj]
    by_cases h : j + 1 < ks.length
    · rw [frO_some h]
      have h1 : ((ks.map kb)[j]'(by simpa using hj)).1 < ((ks.map kb)[j + 1]'(by simpa using h)).1 := List.pairwise_iff_getElem.1 hasc j (j + 1) (by simpa using hj) (by simpa using h) (by omega)
      rw [List.getElem_map, List.getElem_map] at h1
      have h1 : ks[j].1 < ks[j + 1].1 := h1
      have h2 := hlt _ h
      show kmu (.int .i64 (ks[j + 1].1 : Nat)) (.pointer (some ⟨ks[j + 1].2.1, 0, none⟩)) < kmu (.int .i64 (ks[j].1 : Nat)) (.pointer (some ⟨ks[j].2.1, 0, none⟩))
      rw [kmu_some, kmu_some]
      omega
    · rw [frO_none h]
      have h2 := hlt _ hj
      show 0 < kmu (.int .i64 (ks[j].1 : Nat)) (.pointer (some ⟨ks[j].2.1, 0, none⟩))
      rw [kmu_some]
      omega
theorem FromK.bel {w w1 : World} {b : Nat} {ks : List (Nat × Nat × List En)} (h : FromK w b ks) (hb : Below w.heap.size w w1) : FromK w1 b ks :=
  ⟨fun w' hb2 => h.zero w' (hb.trans (hb2.mono hb.size)), fun j hj w' hb2 => h.next j hj w' (hb.trans (hb2.mono hb.size)), h.lt, h.mu⟩
end Go.Proofs.YtdkomhmciihkiaaGreat
/-! WlkA -/
namespace Go.Proofs.YtdkomhmciihkiaaGreat
open Go.RowKit
set_option linter.unusedVariables false
set_option linter.unusedSimpArgs false
set_option maxRecDepth 100000

/-- the function f, with cap captured, is told entries; Inv says what it has been told -/
structure Tell (W : World) (f : FuncId) (cap : Array Value) (N : Nat) (Inv : List En → World → Prop) : Prop where
  ent : ∀ args w, (callFunc f args).run Tryz.prog w = .ok (.enter f args) w
  tell : ∀ d e u w', d.length < N → Inv d w' → Below W.heap.size W w' → PtNew w' u e.p → Calls Tryz.prog f (#[.agg #[u, .int .u64 (e.v : Nat)]] ++ cap) w' fun r w'' => r = .returned (.bool true) ∧ Inv (d ++ [e]) w'' ∧ Below W.heap.size W w''
  step : ∀ d w' w'', Inv d w' → Below w'.heap.size w' w'' → Inv d w''
def EachP (W : World) (Inv : List En → World → Prop) (d : List En) (e : Ending) (w' : World) : Prop := e = .returned (.bool true) ∧ Inv d w' ∧ Below W.heap.size W w'
theorem each_nil (w : World) (f : FuncId) (cap : Array Value) : Calls Tryz.prog 126 #[.pointer none, .func (.func f) #[] cap] w fun e w' => e = .returned (.bool true) ∧ w' = w := by
  go_enter Tryz.func126, Tryz.ntmps126
  go_wp2_with fail
  go_ret
  exact ⟨rfl, rfl⟩
set_option maxHeartbeats 2000000 in
theorem each_leaf (W w : World) (f : FuncId) (cap : Array Value) (N k b : Nat) (p : List Nat) (v : Nat) (Inv : List En → World → Prop) (d : List En) (T : Tell W f cap N Inv)
    (h : Hd W b (-1) p v (.pointer none) (Sm.of v)) (hp : p.length = k) (k1 : 1 ≤ k) (k16 : k ≤ 16) (hi : Inv d w) (hb : Below W.heap.size W w) (hN : d.length < N) :
    Calls Tryz.prog 126 #[.pointer (some ⟨b, 0, none⟩), .func (.func f) #[] cap] w fun e w' => EachP W Inv (d ++ [⟨p, v⟩]) e w' := by
  have HE := Lib.hid (ent_leaf w b k v (-1) p (Sm.of v) (h.keep hb) hp k1 k16)
  have HI := Lib.hid (And.intro hi (And.intro hb hN))
  have HT := Lib.hid T
  have hent := T.ent
  have hbl := (h.keep hb).c0
  have hbl := World.block_lt_of_cell? w _ hbl
  clear T h hp k1 k16 hi hb hN
  go_enter Tryz.func126, Tryz.ntmps126
  go_wp2_with fail
  refine HE.out.mono ?_
  rintro e w1 ⟨u, rfl, hpt, hb1⟩
  obtain ⟨A9, c9, rfl, _⟩ := RdU.point hpt.rd
  have HP := Lib.hid (And.intro hpt hb1)
  clear hpt hb1 hbl
  go_wp2_with fail
  refine (HT.out.tell _ ⟨p, v⟩ _ _ HI.out.2.2 (HT.out.step _ _ _ HI.out.1 (below_trans HP.out.2 (by repeat (first | exact Below.refl _ _ | (refine Below.drew ?_) | (refine below_drewN' ?_ _) | (refine below_alloc' ?_ _) | (refine Below.setCell ?_ (by first | exact Nat.le_refl _ | (simp; done) | (simp; omega)) _))))) (HI.out.2.1.trans ((below_trans HP.out.2 (by repeat (first | exact Below.refl _ _ | (refine Below.drew ?_) | (refine below_drewN' ?_ _) | (refine below_alloc' ?_ _) | (refine Below.setCell ?_ (by first | exact Nat.le_refl _ | (simp; done) | (simp; omega)) _)))).mono HI.out.2.1.size)) (HP.out.1.below (by repeat (first | exact Below.refl _ _ | (refine Below.drew ?_) | (refine below_drewN' ?_ _) | (refine below_alloc' ?_ _) | (refine Below.setCell ?_ (by first | exact Nat.le_refl _ | (simp; done) | (simp; omega)) _))))).mono ?_
  rintro e w2 ⟨rfl, hi2, hb2⟩
  have HF := Lib.hid (And.intro hi2 hb2)
  clear hi2 hb2
  go_wp2_with fail
  go_ret
  exact ⟨rfl, HF.out⟩
set_option maxHeartbeats 4000000 in
theorem each_node (W w : World) (f : FuncId) (cap : Array Value) (N b s k : Nat) (ks : List (Nat × Nat × List En)) (Inv : List En → World → Prop) (d : List En) (T : Tell W f cap N Inv)
    (c3 : W.cell? ⟨b, 3, none⟩ = some (.pointer (some ⟨s, 0, none⟩))) (hs : SlR W s k (ks.map kb)) (hi : Inv d w) (hb : Below W.heap.size W w) (hN : d.length + (cat (ks.map kl)).length ≤ N)
    (ih : ∀ x ∈ ks, ∀ (w' : World) (d : List En), Inv d w' → Below W.heap.size W w' → d.length + x.2.2.length ≤ N → Calls Tryz.prog 126 #[.pointer (some ⟨x.2.1, 0, none⟩), .func (.func f) #[] cap] w' fun e w'' => EachP W Inv (d ++ x.2.2) e w'') :
    Calls Tryz.prog 126 #[.pointer (some ⟨b, 0, none⟩), .func (.func f) #[] cap] w fun e w' => EachP W Inv (d ++ cat (ks.map kl)) e w' := by
  have HE := Lib.hid (ent_node w b s (Below.keeps hb _ _ c3))
  have HFK := Lib.hid (FromK.of c3 hs)
  have HI := Lib.hid (And.intro hi (And.intro hb hN))
  have HT := Lib.hid T
  have HIH := Lib.hid ih
  have hbl := World.block_lt_of_cell? w _ (Below.keeps hb _ _ c3)
  clear T c3 hs hi hb hN ih
  go_enter Tryz.func126, Tryz.ntmps126
  go_wp2_with fail
  refine HE.out.mono ?_
  rintro e w1 ⟨rfl, hb1⟩
  have HB1 := Lib.hid (HI.out.2.1.trans (hb1.mono HI.out.2.1.size))
  have HI1 := Lib.hid (HT.out.step _ _ _ HI.out.1 hb1)
  clear hb1 hbl
  go_wp2_with fail
  refine (HFK.out.zero _ (below_trans HB1.out (by repeat (first | exact Below.refl _ _ | (refine Below.drew ?_) | (refine below_drewN' ?_ _) | (refine below_alloc' ?_ _) | (refine Below.setCell ?_ (by first | exact Nat.le_refl _ | (simp; done) | (simp; omega)) _))))).mono ?_
  rintro e w2 ⟨rfl, hb2⟩
  have HB2 := Lib.hid ((below_trans HB1.out (by repeat (first | exact Below.refl _ _ | (refine Below.drew ?_) | (refine below_drewN' ?_ _) | (refine below_alloc' ?_ _) | (refine Below.setCell ?_ (by first | exact Nat.le_refl _ | (simp; done) | (simp; omega)) _)))).trans (hb2.mono (below_trans HB1.out (by repeat (first | exact Below.refl _ _ | (refine Below.drew ?_) | (refine below_drewN' ?_ _) | (refine below_alloc' ?_ _) | (refine Below.setCell ?_ (by first | exact Nat.le_refl _ | (simp; done) | (simp; omega)) _)))).size))
  have HI2 := Lib.hid (HT.out.step _ _ _ (HT.out.step _ _ _ HI1.out ((by repeat (first | exact Below.refl _ _ | (refine Below.drew ?_) | (refine below_drewN' ?_ _) | (refine below_alloc' ?_ _) | (refine Below.setCell ?_ (by first | exact Nat.le_refl _ | (simp; done) | (simp; omega)) _))) : Below w1.heap.size w1 _)) hb2)
  clear hb2
  go_wp2_with fail
  go_loopw [7, 8] (fun av kv wr => ∃ j : Nat, j ≤ ks.length ∧ av = frA (frO ks j) ∧ kv = frK (frO ks j) ∧ Inv (d ++ cat ((ks.map kl).take j)) wr ∧ Below W.heap.size W wr) (fun av kv _ => kmu av kv)
  case atStart => exact ⟨0, Nat.zero_le _, rfl, rfl, by simpa [cat] using HI2.out, HB2.out⟩
  case round =>
    obtain ⟨j, hj, rfl, rfl, hi, hb⟩ := hrel
    have HR := Lib.hid (And.intro hi hb)
    by_cases hlt : j < ks.length
    · have hcat := cat_take_succ (ks.map kl) j (by rw [List.length_map]; exact hlt)
      have hroom := cat_room (ks.map kl) j (by rw [List.length_map]; exact hlt)
      rw [List.getElem_map] at hcat hroom
      have hk2 : (kl ks[j]).2 = ks[j].2.2 := rfl
      rw [hk2] at hcat hroom
      have HK := Lib.hid (HIH.out ks[j] (List.getElem_mem hlt) wr _ hi hb (by have := HI.out.2.2; rw [List.length_append]; omega))
      have HNX := Lib.hid (HFK.out.next j hlt)
      have HMU := Lib.hid (HFK.out.mu j hlt)
      have HC := Lib.hid hcat
      have hla := HFK.out.lt j hlt
      rw [frO_some hlt] at HMU ⊢
      obtain ⟨A, hA⟩ : ∃ A, ks[j].1 = A := ⟨_, rfl⟩
      obtain ⟨B, hB⟩ : ∃ B, ks[j].2.1 = B := ⟨_, rfl⟩
      rw [hA] at HNX HMU hla ⊢
      rw [hB] at HK HMU ⊢
      have HW := Lib.hid (show wrap64 ((A : Int) + 1) = (A : Int) + 1 by unfold wrap64; omega)
      rw [frA_some, frK_some]
      clear hi hb hcat hroom hk2 hA hB hla
      go_wp2_with fail
      refine HK.out.mono ?_
      rintro e w3 ⟨rfl, hi3, hb3⟩
      have HR3 := Lib.hid (And.intro hi3 hb3)
      clear hi3 hb3
      go_wp2_with fail
      rw [HW.out]
      refine (HNX.out _ (below_trans HR3.out.2 (by repeat (first | exact Below.refl _ _ | (refine Below.drew ?_) | (refine below_drewN' ?_ _) | (refine below_alloc' ?_ _) | (refine Below.setCell ?_ (by first | exact Nat.le_refl _ | (simp; done) | (simp; omega)) _))))).mono ?_
      rintro e w4 ⟨rfl, hb4⟩
      have HR4 := Lib.hid (And.intro (HT.out.step _ _ _ HR3.out.1 hb4) (HR3.out.2.trans (hb4.mono HR3.out.2.size)))
      clear hb4
      go_wp2_with fail
      go_roundw
      case rel => exact ⟨j + 1, by omega, rfl, rfl, by rw [HC.out, ← List.append_assoc]; exact HR4.out.1, HR4.out.2⟩
      case measure => exact HMU.out
    · rw [frO_none hlt]
      rw [frA_none, frK_none]
      have e : (ks.map kl).take j = ks.map kl := List.take_of_length_le (by rw [List.length_map]; omega)
      rw [e] at HR
      clear hi hb e
      go_wp2_with fail
      go_ret
      exact ⟨rfl, HR.out⟩
theorem each_nd (W : World) (f : FuncId) (cap : Array Value) (N k : Nat) (Inv : List En → World → Prop) (T : Tell W f cap N Inv) (k1 : 1 ≤ k) (k16 : k ≤ 16) {b : Nat} {l : List En} (h : Nd W k b l) :
    ∀ (w : World) (d : List En), Inv d w → Below W.heap.size W w → d.length + l.length ≤ N → Calls Tryz.prog 126 #[.pointer (some ⟨b, 0, none⟩), .func (.func f) #[] cap] w fun e w' => EachP W Inv (d ++ l) e w' := by
  induction h with
  | leaf b p v h hp ho hv => exact fun w d hi hb hN => each_leaf W w f cap N k b p v Inv d T h hp k1 k16 hi hb (by simp at hN; omega)
  | node b s n pre ks h hs hkd hn ih => exact fun w d hi hb hN => each_node W w f cap N b s k ks Inv d T h.c3 hs hi hb hN ih
end Go.Proofs.YtdkomhmciihkiaaGreat
/-! EntD -/
namespace Go.Proofs.YtdkomhmciihkiaaGreat
open Go.RowKit
set_option linter.unusedVariables false

/-- the cells cs hold the entries l, Pt saying what a point's value reads as -/
def CellsD (Pt : Value → List Nat → Prop) : List En → List Value → Prop
  | [], cs => cs = []
  | e :: l, cs => ∃ u ds, cs = u :: .int .u64 (e.v : Nat) :: ds ∧ Pt u e.p ∧ CellsD Pt l ds
theorem CellsD.length {Pt : Value → List Nat → Prop} {cs : List Value} {l : List En} (h : CellsD Pt l cs) : cs.length = l.length * 2 := by
  induction l generalizing cs with
  | nil => obtain rfl : cs = [] := h; rfl
  | cons e l ih => obtain ⟨u, ds, rfl, _, h⟩ := h; have := ih h; simp; omega
theorem CellsD.append {Pt : Value → List Nat → Prop} {cs ds : List Value} {l m : List En} (h : CellsD Pt l cs) (k : CellsD Pt m ds) : CellsD Pt (l ++ m) (cs ++ ds) := by
  induction l generalizing cs with
  | nil => obtain rfl : cs = [] := h; exact k
  | cons e l ih => obtain ⟨u, ds, rfl, hu, h⟩ := h; exact ⟨u, _, rfl, hu, ih h⟩
theorem CellsD.mono {Pt Qt : Value → List Nat → Prop} {cs : List Value} {l : List En} (h : CellsD Pt l cs) (hk : ∀ u p, Pt u p → Qt u p) : CellsD Qt l cs := by
  induction l generalizing cs with
  | nil => exact h
  | cons e l ih => obtain ⟨u, ds, rfl, hu, h⟩ := h; exact ⟨u, ds, rfl, hk _ _ hu, ih h⟩
theorem CellsD.oneCell {Pt : Value → List Nat → Prop} {w : World} (hp : ∀ u p, Pt u p → RdU w u (pti p)) {cs : List Value} {l : List En} (h : CellsD Pt l cs) : ∀ u ∈ cs, u.oneCell' = true := by
  induction l generalizing cs with
  | nil => obtain rfl : cs = [] := h; intro u hu; simp at hu
  | cons e l ih =>
    obtain ⟨u, ds, rfl, hu, h⟩ := h
    intro y hy
    simp only [List.mem_cons] at hy
    rcases hy with rfl | rfl | hy
    · exact RdU.one' (hp _ _ hu)
    · rfl
    · exact ih h y hy
theorem CellsD.get {Pt : Value → List Nat → Prop} {cs : List Value} {l : List En} (h : CellsD Pt l cs) :
    ∀ j (h : j < l.length), ∃ u, cs[j * 2]? = some u ∧ Pt u l[j].p ∧ cs[j * 2 + 1]? = some (.int .u64 (l[j].v : Nat)) := by
  induction l generalizing cs with
  | nil => intro j hj; simp at hj
  | cons e l ih =>
    obtain ⟨u, ds, rfl, hu, h⟩ := h
    intro j hj
    cases j with
    | zero => exact ⟨u, by simp, hu, by simp⟩
    | succ j =>
      obtain ⟨u', h1, h2, h3⟩ := ih h j (by simpa using hj)
      refine ⟨u', ?_, by simpa using h2, ?_⟩
      · rw [show (j + 1) * 2 = j * 2 + 1 + 1 by omega]; simpa using h1
      · rw [show (j + 1) * 2 + 1 = j * 2 + 1 + 1 + 1 by omega]; simpa using h3
/-- v is a row of the call's own (the call began in W) that holds the entries l -/
def OwnD (Pt : Value → List Nat → Prop) (W w : World) (v : Value) (l : List En) : Prop := ∃ cs, w.ownsRow W.heap.size 35 2 v l.length cs ∧ CellsD Pt l cs
theorem OwnD.nil (Pt : Value → List Nat → Prop) (W w : World) : OwnD Pt W w (.slice none 0 0) [] := ⟨[], World.ownsRow_nil _ _ _ _, rfl⟩
theorem OwnD.mono {Pt Qt : Value → List Nat → Prop} {W w : World} {v : Value} {l : List En} (h : OwnD Pt W w v l) (hk : ∀ u p, Pt u p → Qt u p) : OwnD Qt W w v l := let ⟨cs, h1, h2⟩ := h; ⟨cs, h1, h2.mono hk⟩
theorem OwnD.alloc {Pt : Value → List Nat → Prop} {W w : World} {v : Value} {l : List En} (h : OwnD Pt W w v l) (o : Obj) : OwnD Pt W (w.alloc o) v l := let ⟨cs, h1, h2⟩ := h; ⟨cs, h1.alloc o, h2⟩
theorem OwnD.below {Pt : Value → List Nat → Prop} {W w w' : World} {v : Value} {l : List En} (h : OwnD Pt W w v l) (hb : Below w.heap.size w w') : OwnD Pt W w' v l := by
  obtain ⟨cs, ⟨h1, h2⟩, h3⟩ := h
  refine ⟨cs, ⟨h1, ?_⟩, h3⟩
  rcases h2 with h2 | ⟨g, cap, cur, q1, q2, q3, q4⟩
  · exact .inl h2
  · exact .inr ⟨g, cap, cur, q1, q2, (hb.block g (Array.getElem?_eq_some_iff.1 q3).1).trans q3, q4⟩
theorem OwnD.shape {Pt : Value → List Nat → Prop} {W w : World} {v : Value} {l : List En} (h : OwnD Pt W w v l) : ∃ A c, v = .slice A l.length c := by
  obtain ⟨cs, ⟨h1, h2⟩, h3⟩ := h
  rcases h2 with ⟨rfl, h0⟩ | ⟨g, cap, cur, rfl, _⟩
  · exact ⟨_, _, by rw [h0]⟩
  · exact ⟨_, _, rfl⟩
/-- a row that is not empty: its block -/
theorem OwnD.cells {Pt : Value → List Nat → Prop} {W w : World} {v : Value} {l : List En} (h : OwnD Pt W w v l) (hne : l ≠ []) :
    ∃ g cap cur, v = .slice (some ⟨g, 0, none⟩) l.length cap ∧ W.heap.size ≤ g ∧ w.heap[g]? = some (.cells cur 35 (0, 0)) ∧ l.length ≤ cap ∧ cap ≤ maxLen ∧ cur.size = cap * 2 ∧
      ∀ j (h : j < l.length), ∃ u, cur[j * 2]? = some u ∧ Pt u l[j].p ∧ cur[j * 2 + 1]? = some (.int .u64 (l[j].v : Nat)) := by
  have hpos := List.length_pos_iff.2 hne
  obtain ⟨cs, ⟨h1, h2⟩, h3⟩ := h
  rcases h2 with ⟨rfl, h0⟩ | ⟨g, cap, cur, rfl, q2, q3, q4, q5, q6, q7⟩
  · exact absurd hpos (by omega)
  · refine ⟨g, cap, cur, rfl, q2, q3, q4, q5, q6, fun j hj => ?_⟩
    obtain ⟨u, r1, r2, r3⟩ := h3.get j hj
    rw [← q7, List.getElem?_take_of_lt (by omega)] at r1 r3
    exact ⟨u, by simpa using r1, r2, by simpa using r3⟩
theorem OwnD.rd {Pt : Value → List Nat → Prop} {W w : World} {v : Value} {l : List En} (h : OwnD Pt W w v l) (hp : ∀ u p, Pt u p → RdU w u (pti p)) : RdE w v l := by
  by_cases hne : l = []
  · subst hne
    obtain ⟨cs, ⟨h1, h2⟩, h3⟩ := h
    rcases h2 with ⟨rfl, h0⟩ | ⟨g, cap, cur, rfl, q2, q3, q4, q5, q6, q7⟩
    · exact RdE.nil _ _ _ (Nat.zero_le _) fun h => absurd h (by omega)
    · exact RdE.nil _ _ _ q5 fun _ => ⟨_, _, rfl⟩
  · obtain ⟨g, cap, cur, rfl, q2, q3, q4, q5, q6, q7⟩ := h.cells hne
    refine ⟨_, _, rfl, ⟨q4, q5, fun _ => ⟨_, _, rfl⟩⟩, fun _ => ⟨g, 0, rfl, fun j hj => ?_⟩⟩
    obtain ⟨u, r1, r2, r3⟩ := q7 j hj
    exact ⟨u, by simp [World.cell?, q3, r1], hp _ _ r2, by simp [World.cell?, q3, r3]⟩
/-- the own block is a row of entries -/
theorem OwnD.block {Pt : Value → List Nat → Prop} {W w : World} {v : Value} {l : List En} (h : OwnD Pt W w v l) : ∀ k, v.ownBlock = some k → W.heap.size ≤ k ∧ ∃ cur, w.heap[k]? = some (.cells cur 35 (0, 0)) := by
  obtain ⟨cs, ⟨h1, h2⟩, h3⟩ := h
  intro k hk
  rcases h2 with ⟨rfl, _⟩ | ⟨g, cap, cur, rfl, q2, q3, q4⟩
  · cases hk
  · injection hk with hk; subst hk; exact ⟨q2, cur, q3⟩
/-- one entry to be appended -/
def SrcD (Pt : Value → List Nat → Prop) (w : World) (x : Value) (e : En) : Prop :=
  ∃ b cc u, x = .slice (some ⟨b, 0, none⟩) 1 cc ∧ w.cell? ⟨b, 0, none⟩ = some u ∧ Pt u e.p ∧ w.cell? ⟨b, 1, none⟩ = some (.int .u64 (e.v : Nat))
theorem run_append_D {Pt : Value → List Nat → Prop} (W w : World) (hp : ∀ u p, Pt u p → RdU w u (pti p)) (v x : Value) (l : List En) (e : En) (hown : OwnD Pt W w v l) (hx : SrcD Pt w x e) (hb : W.heap.size ≤ w.heap.size) (hlen : l.length ≤ 100000) (ty : TypeId) :
    ∃ v' w', (Builtin.append_ #[44, 44] ty #[v, x]).run Tryz.prog w = .ok v' w' ∧ OwnD Pt W w' v' (l ++ [e]) ∧ w.grownBy w' v.ownBlock := by
  obtain ⟨cs, ho, hc⟩ := hown
  obtain ⟨b, cc, u, rfl, k0, ku, k1⟩ := hx
  have hn : CellsD Pt [e] [u, .int .u64 (e.v : Nat)] := ⟨u, [], rfl, ku, rfl⟩
  obtain ⟨v', w', a1, a2, a3⟩ := run_append_src (P := Tryz.prog) w W.heap.size 44 ty 35 _ 2 32 Tryz.underlying44 entryInfo rfl (by omega) v l.length cs ho (.slice (some ⟨b, 0, none⟩) 1 cc) 1 [u, .int .u64 (e.v : Nat)]
    ⟨rfl, hn.oneCell hp, _, cc, rfl, (fun h => by cases h), fun ad had j x hj => by
      injection had with had; subst had
      match j with
      | 0 => simp at hj; subst hj; simpa [Addr.add] using k0
      | 1 => simp at hj; subst hj; simpa [Addr.add] using k1
      | j + 2 => simp at hj⟩ (by simp only [maxLen]; omega) (by omega) hb
  exact ⟨v', w', a1, ⟨_, by rw [List.length_append]; exact a2, hc.append hn⟩, a3⟩
theorem wpList_append_D {Pt : Value → List Nat → Prop} {w : World} {ops : Array Oper} {rest : List Oper} {o : Oper} {a : Act} {Q : Exit → Act → World → Prop} (hgd : o.guard = none) (s x : Operand)
    (ho : o.op = .call { callee := .builtin .append, args := #[s, x], argTypes := #[44, 44] }) (W : World) (l : List En) (e : En)
    (hp : ∀ u p, Pt u p → RdU w u (pti p)) (hown : OwnD Pt W w (a.eval s) l) (hx : SrcD Pt w (a.eval x) e) (hb : W.heap.size ≤ w.heap.size) (hlen : l.length ≤ 100000)
    (h : ∀ v' w', OwnD Pt W w' v' (l ++ [e]) → w.grownBy w' (a.eval s).ownBlock → wpList Tryz.prog ops Q rest (a.put o.dst v') w') : wpList Tryz.prog ops Q (o :: rest) a w := by
  refine wpList_plain hgd fun K hK => ?_
  obtain ⟨v', w', hrun, r1, r2⟩ := run_append_D W w hp _ _ l e hown hx hb hlen o.type
  unfold Oper.wp
  simp [execOp, ho, resolve, invoke, builtin, hrun, Result.andThen]
  exact hK _ _ (h v' w' r1 r2)
theorem OwnD.grown {Pt : Value → List Nat → Prop} {W w w' : World} {v : Value} {l : List En} (h : OwnD Pt W w v l) (hb : Below W.heap.size W w) (hg : w.grownBy w' v.ownBlock) : Below W.heap.size W w' :=
  hb.grown hg hb.size fun k hk => (h.block k hk).1
/-- a point in a row of numbers stays when a row of entries grows -/
theorem PtNew.grownD {Pt : Value → List Nat → Prop} {W w w' : World} {v : Value} {l : List En} (ho : OwnD Pt W w v l) (hg : w.grownBy w' v.ownBlock) : ∀ u p, PtNew w u p → PtNew w' u p := fun u p h =>
  h.keepBlock fun b cur fr hb => hg.block _ (lt_of_block hb) fun e => by
    obtain ⟨_, c2, h2⟩ := ho.block _ e.symm
    rw [hb] at h2
    injection h2 with h2
    injection h2 with _ h2 _
    revert h2; decide
end Go.Proofs.YtdkomhmciihkiaaGreat
/-! Pairs -/
namespace Go.Proofs.YtdkomhmciihkiaaGreat
open Go.RowKit
set_option linter.unusedVariables false
set_option linter.unusedSimpArgs false

theorem Bdrew {W w : World} (h : Below W.heap.size W w) (n : Nat) : Below W.heap.size W (w.drewN n) := h.trans ((drewN_below w n).mono h.size)
theorem enters_func {P : Program} {f : FuncId} {fn : Func} (hf : P.funcs[f]? = some fn) (hname : (fn.name == "runtime.NumGoroutine") = false) (hb : fn.body.isSome = true) (args : Array Value) (w : World) :
    (callFunc f args).run P w = .ok (.enter f args) w := by
  have h1 : fn.name ≠ "runtime.NumGoroutine" := by simpa using hname
  obtain ⟨c, hc⟩ := Option.isSome_iff_exists.1 hb
  simp [callFunc, hf, h1, hc]
def lenOf : Value → Nat | .slice _ n _ => n | _ => 0

/-- the list without its first -/
theorem tailC {W : World} {b o c : Nat} {x : Ch} {l : List Ch} (h : RdC W (.slice (some ⟨b, o, none⟩) (l.length + 1) c) (x :: l) ∧ CapOk (.slice (some ⟨b, o, none⟩) (l.length + 1) c)) (hc : CapOk (.slice (some ⟨b, o, none⟩) (l.length + 1) c)) :
    RdC W (.slice (if c = 1 then some (⟨b, o, none⟩ : Addr) else some ⟨b, o + 5, none⟩) l.length (c - 1)) l ∧ CapOk (.slice (if c = 1 then some (⟨b, o, none⟩ : Addr) else some ⟨b, o + 5, none⟩) l.length (c - 1)) := by
  obtain ⟨A9, n9, c9, e9, h9, h10, h11⟩ := hc
  injection e9 with e1 e2 e3
  subst e1 e2 e3
  obtain ⟨⟨A, c', e, hx⟩, _⟩ := h
  injection e with e1 e2 e3
  subst e1 e3
  obtain ⟨b', o', ha, hch⟩ := hx (by simp)
  injection ha with ha
  injection ha with ha1 ha2
  subst ha1 ha2
  refine ⟨⟨_, _, rfl, fun hp => ⟨b, o + 5, by rw [if_neg (by omega)], fun j hj => ?_⟩⟩, _, _, _, rfl, by omega, by omega, fun h => ?_⟩
  · have := hch (j + 1) (by simpa using hj)
    rw [show o + 5 + j * 5 = o + (j + 1) * 5 by omega]
    simpa using this
  · split
    · exact ⟨_, _, rfl⟩
    · exact ⟨_, _, rfl⟩

/-- at the label: so much is done -/
structure PairsAt (W : World) (T : Option Ch × Option Ch → Bool) (Inv : List (Option Ch × Option Ch) → World → Prop) (a b : List Ch) (wa wb : Value) (n : Nat) (la lb : List Ch) (d : List (Option Ch × Option Ch)) (w' : World) : Prop where
  ra : RdC W wa la ∧ CapOk wa
  rb : RdC W wb lb ∧ CapOk wb
  le : la.length + lb.length ≤ n
  eq' : pairs a b = d ++ pairsL n la lb
  all : d.all T = true
  inv : Inv d w'
  bel : Below W.heap.size W w'
  sa : ∀ x ∈ la, x ∈ a
  sb : ∀ y ∈ lb, y ∈ b
  len : d.length + (la.length + lb.length) ≤ a.length + b.length

section
variable {W w' : World} {T : Option Ch × Option Ch → Bool} {Inv : List (Option Ch × Option Ch) → World → Prop} {a b ta tb : List Ch} {x y : Ch} {wa wb : Value} {n : Nat} {d : List (Option Ch × Option Ch)}
theorem PairsAt.done (h : PairsAt W T Inv a b wa wb n [] [] d w') : pairs a b = d := by
  have := h.eq'
  cases n <;> simpa [pairsL] using this
theorem PairsAt.onlyA (h : PairsAt W T Inv a b wa wb n (x :: ta) [] d w') : ∃ m, ta.length + 0 ≤ m ∧ pairs a b = d ++ (some x, none) :: pairsL m ta [] := by
  have := h.eq'
  have hle := h.le
  cases n with
  | zero => simp at hle
  | succ m => exact ⟨m, by simp at hle; omega, this⟩
theorem PairsAt.onlyB (h : PairsAt W T Inv a b wa wb n [] (y :: tb) d w') : ∃ m, 0 + tb.length ≤ m ∧ pairs a b = d ++ (none, some y) :: pairsL m [] tb := by
  have := h.eq'
  have hle := h.le
  cases n with
  | zero => simp at hle
  | succ m => exact ⟨m, by simp at hle; omega, this⟩
theorem PairsAt.lt (h : PairsAt W T Inv a b wa wb n (x :: ta) (y :: tb) d w') (hz : Zb.cmp x.p y.p < 0) : ∃ m, ta.length + (tb.length + 1) ≤ m ∧ pairs a b = d ++ (some x, none) :: pairsL m ta (y :: tb) := by
  have := h.eq'
  have hle := h.le
  cases n with
  | zero => simp at hle
  | succ m => exact ⟨m, by simp at hle; omega, by rw [this, pairsL, if_pos hz]⟩
theorem PairsAt.gt (h : PairsAt W T Inv a b wa wb n (x :: ta) (y :: tb) d w') (hz : ¬ Zb.cmp x.p y.p < 0) (hz2 : 0 < Zb.cmp x.p y.p) : ∃ m, ta.length + 1 + tb.length ≤ m ∧ pairs a b = d ++ (none, some y) :: pairsL m (x :: ta) tb := by
  have := h.eq'
  have hle := h.le
  cases n with
  | zero => simp at hle
  | succ m => exact ⟨m, by simp at hle; omega, by rw [this, pairsL, if_neg hz, if_pos hz2]⟩
theorem PairsAt.eq (h : PairsAt W T Inv a b wa wb n (x :: ta) (y :: tb) d w') (hz : ¬ Zb.cmp x.p y.p < 0) (hz2 : ¬ 0 < Zb.cmp x.p y.p) : ∃ m, ta.length + tb.length ≤ m ∧ pairs a b = d ++ (some x, some y) :: pairsL m ta tb := by
  have := h.eq'
  have hle := h.le
  cases n with
  | zero => simp at hle
  | succ m => exact ⟨m, by simp at hle; omega, by rw [this, pairsL, if_neg hz, if_neg hz2]⟩
end
/-- what pairs hands back -/
def PairsP (W : World) (T : Option Ch × Option Ch → Bool) (Inv : List (Option Ch × Option Ch) → World → Prop) (a b : List Ch) (e : Ending) (w' : World) : Prop :=
  e = .returned (.bool ((pairs a b).all T)) ∧ ((pairs a b).all T = true → Inv (pairs a b) w') ∧ Below W.heap.size W w'

set_option maxRecDepth 100000 in
set_option maxHeartbeats 4000000 in
theorem pairs_any (W w : World) (f : FuncId) (cap : Array Value) (T : Option Ch × Option Ch → Bool) (Inv : List (Option Ch × Option Ch) → World → Prop) (a b : List Ch) (va vb : Value) (k : Nat)
    (ra : Rt k a) (rb : Rt k b) (hk : 1 ≤ k ∧ k ≤ 16) (hn : a.length + b.length ≤ 1000) (HE : ∀ args w, (callFunc f args).run Tryz.prog w = .ok (.enter f args) w)
    (HT0 : ∀ d p px py w', Inv d w' → Below W.heap.size W w' → PtrC w' px p.1 → PtrC w' py p.2 → (∀ x, p.1 = some x → x ∈ a) → (∀ y, p.2 = some y → y ∈ b) → d.length ≤ 1000 → p ≠ (none, none) →
      Calls Tryz.prog f (#[px, py] ++ cap) w' fun e w'' => e = .returned (.bool (T p)) ∧ (T p = true → Inv (d ++ [p]) w'') ∧ Below W.heap.size W w'')
    (HD0 : ∀ d w n, Inv d w → Inv d (w.drewN n)) (hInv : Inv [] w) (hbW : Below W.heap.size W w) (hra : RdC W va a ∧ CapOk va) (hrb : RdC W vb b ∧ CapOk vb) :
    Calls Tryz.prog 152 #[va, vb, .func (.func f) #[] cap] w fun e w' => PairsP W T Inv a b e w' := by
  have H0 := Lib.hid (show PairsAt W T Inv a b va vb (a.length + b.length) a b [] w from ⟨hra, hrb, Nat.le_refl _, rfl, rfl, hInv, hbW, fun _ h => h, fun _ h => h, by simp⟩)
  have HT := Lib.hid HT0
  have HDr := Lib.hid HD0
  have RA := Lib.hid ra
  have RB := Lib.hid rb
  have HK := Lib.hid (And.intro hk.1 (And.intro hk.2 hn))
  clear HT0 HD0 ra rb hk hn hInv hbW hra hrb
  go_enter Tryz.func152, Tryz.ntmps152
  go_wp2_with fail
  refine wp_scope_jumps2 0 (fun a' w' => ∃ (wa wb : Value) (n : Nat) (la lb : List Ch) (d : List (Option Ch × Option Ch)) (u7 u8 u9 u10 u11 u12 u13 u14 u15 u16 u17 u18 u19 u20 u21 u22 u23 u24 u25 u26 u27 u28 u29 u30 u31 u32 u33 u34 u35 u36 u37 u38 u39 u40 u41 u42 u43 u44 u45 u46 u47 u48 u49 u50 u51 u52 u53 u54 : Value), a' = { tmps := #[wa, wb, .func (.func f) #[] cap, undef, undef, undef, .bool false, u7, u8, u9, u10, u11, u12, u13, u14, u15, u16, u17, u18, u19, u20, u21, u22, u23, u24, u25, u26, u27, u28, u29, u30, u31, u32, u33, u34, u35, u36, u37, u38, u39, u40, u41, u42, u43, u44, u45, u46, u47, u48, u49, u50, u51, u52, u53, u54], defers := [] } ∧ PairsAt W T Inv a b wa wb n la lb d w') (fun a' _ => lenOf (a'.tmps.getD 0 undef) + lenOf (a'.tmps.getD 1 undef)) rfl ?_ ?_
  · rintro a' w' ⟨wa, wb, n, la, lb, d, u7, u8, u9, u10, u11, u12, u13, u14, u15, u16, u17, u18, u19, u20, u21, u22, u23, u24, u25, u26, u27, u28, u29, u30, u31, u32, u33, u34, u35, u36, u37, u38, u39, u40, u41, u42, u43, u44, u45, u46, u47, u48, u49, u50, u51, u52, u53, u54, rfl, hP⟩
    cases la with
    | nil =>
      cases lb with
      | nil =>
        have HP := Lib.hid hP
        obtain ⟨⟨Aa, ca, rfl, _⟩, _⟩ := hP.ra
        obtain ⟨⟨Ab, cb, rfl, _⟩, _⟩ := hP.rb
        clear hP
        go_wp2_with fail
        simp only [Exit.jump]
        go_ret
        have e := HP.out.done
        unfold PairsP
        rw [e]
        exact ⟨by rw [HP.out.all] <;> rfl, fun _ => HP.out.inv, HP.out.bel⟩
      | cons y tb =>
        have HP := Lib.hid hP
        obtain ⟨⟨Aa, ca, ea, ga⟩, hca⟩ := hP.ra
        obtain ⟨⟨Ab, cb, eb, gb⟩, hcb⟩ := hP.rb
        subst ea eb
        simp only [List.length_cons, List.length_nil] at *
        obtain ⟨bb, ob, rfl, hb⟩ := gb (by omega)
        have hbt := hb 0 (by simp)
        simp only [Nat.zero_mul, Nat.add_zero, List.getElem_cons_zero] at hbt
        have hbtw := hbt.keep (Below.keeps hP.bel)
        obtain ⟨w0, m0, hw0, _⟩ := hbtw
        have hlb : bb < w'.heap.size := World.block_lt_of_cell? w' _ m0
        have HBt := Lib.hid hbt
        have h1b : 1 ≤ cb := by obtain ⟨A9, n9, c9, e9, h9, _⟩ := hcb; injection e9 with _ e1 e2; omega
        obtain ⟨Ay, hAy⟩ : ∃ Ay, (if cb = 1 then some (⟨bb, ob, none⟩ : Addr) else some ⟨bb, ob + 5, none⟩) = Ay := ⟨_, rfl⟩
        have HRB := Lib.hid (show RdC W (.slice Ay tb.length (cb - 1)) tb ∧ CapOk (.slice Ay tb.length (cb - 1)) from hAy ▸ tailC HP.out.rb hcb)
        obtain ⟨m, hm, hpe⟩ := HP.out.onlyB
        have HS := Lib.hid (And.intro hm hpe)
        have HTell := Lib.hid (fun (w'' : World) (hi : Inv d w'') (hbe : Below W.heap.size W w'') => HT.out d (none, some y) (.pointer none) (.pointer (some ⟨bb, ob, none⟩)) w'' hi hbe rfl (HBt.out.keep (Below.keeps hbe) |> fun h => ⟨_, _, rfl, h⟩) (fun z hz => by cases hz) (fun z hz => by injection hz with hz; subst hz; exact HP.out.sb _ (List.mem_cons_self ..)) (by have := HP.out.len; have := HK.out.2.2; simp at *; omega) (by simp))
        have sb1 : ((tb.length : Int) + 1 == 0) = false := by simp; omega
        have sb2 : (0 : Int) < (tb.length : Int) + 1 := by omega
        have sb3 : (1 : Int) ≤ (tb.length : Int) + 1 := by omega
        clear hP hca hcb hm hpe ga gb hb hbt hw0
        go_wp2_with fail
        go_quiet (fail)
        go_wp2_with fail
        have hbe := HP.out.bel
        refine (HTell.out _ (HDr.out _ _ _ HP.out.inv) (Bdrew hbe _)).mono ?_
        rintro e w5 ⟨rfl, hI5, hb5⟩
        have HI5 := Lib.hid (And.intro hI5 hb5)
        clear hI5 hb5 hbe
        generalize hT : T (none, some y) = t at *
        have HTt := Lib.hid hT
        clear hT
        cases t with
        | false =>
          go_wp2_with fail
          simp only [Exit.jump]
          go_ret
          have e : (pairs a b).all T = false := by rw [HS.out.2, List.all_append, List.all_cons, HTt.out]; simp
          exact ⟨by rw [e] <;> rfl, (fun h => by rw [e] at h; cases h), HI5.out.2⟩
        | true =>
          go_wp2_with fail
          go_step3
          refine ⟨rfl, ⟨_, _, m, [], tb, d ++ [(none, some y)], _, _, _, _, _, _, _, _, _, _, _, _, _, _, _, _, _, _, _, _, _, _, _, _, _, _, _, _, _, _, _, _, _, _, _, _, _, _, _, _, _, _, _, _, _, _, _, _, rfl, ⟨HP.out.ra, HRB.out, by (try simp only [List.length_cons, List.length_nil]); have := HS.out.1; omega, by rw [HS.out.2, List.append_assoc]; rfl, by rw [List.all_append, HP.out.all, List.all_cons, HTt.out]; rfl, HI5.out.1 (by first | rfl | trivial), HI5.out.2, fun z hz => HP.out.sa z (hz), fun z hz => HP.out.sb z (List.mem_cons_of_mem _ hz), by have := HP.out.len; (try simp only [List.length_cons, List.length_nil, List.length_append] at *); omega⟩⟩, ?_⟩
          simp [lenOf] <;> omega
    | cons x ta =>
      cases lb with
      | nil =>
        have HP := Lib.hid hP
        obtain ⟨⟨Aa, ca, ea, ga⟩, hca⟩ := hP.ra
        obtain ⟨⟨Ab, cb, eb, gb⟩, hcb⟩ := hP.rb
        subst ea eb
        simp only [List.length_cons, List.length_nil] at *
        obtain ⟨ba, oa, rfl, ha⟩ := ga (by omega)
        have hat := ha 0 (by simp)
        simp only [Nat.zero_mul, Nat.add_zero, List.getElem_cons_zero] at hat
        have hatw := hat.keep (Below.keeps hP.bel)
        obtain ⟨v0, k0, hv0, _⟩ := hatw
        have hla : ba < w'.heap.size := World.block_lt_of_cell? w' _ k0
        have HA := Lib.hid hat
        have h1a : 1 ≤ ca := by obtain ⟨A9, n9, c9, e9, h9, _⟩ := hca; injection e9 with _ e1 e2; omega
        obtain ⟨Ax, hAx⟩ : ∃ Ax, (if ca = 1 then some (⟨ba, oa, none⟩ : Addr) else some ⟨ba, oa + 5, none⟩) = Ax := ⟨_, rfl⟩
        have HRA := Lib.hid (show RdC W (.slice Ax ta.length (ca - 1)) ta ∧ CapOk (.slice Ax ta.length (ca - 1)) from hAx ▸ tailC HP.out.ra hca)
        obtain ⟨m, hm, hpe⟩ := HP.out.onlyA
        have HS := Lib.hid (And.intro hm hpe)
        have HTell := Lib.hid (fun (w'' : World) (hi : Inv d w'') (hbe : Below W.heap.size W w'') => HT.out d (some x, none) (.pointer (some ⟨ba, oa, none⟩)) (.pointer none) w'' hi hbe (HA.out.keep (Below.keeps hbe) |> fun h => ⟨_, _, rfl, h⟩) rfl (fun z hz => by injection hz with hz; subst hz; exact HP.out.sa _ (List.mem_cons_self ..)) (fun z hz => by cases hz) (by have := HP.out.len; have := HK.out.2.2; simp at *; omega) (by simp))
        have sa1 : ((ta.length : Int) + 1 == 0) = false := by simp; omega
        have sa2 : (0 : Int) < (ta.length : Int) + 1 := by omega
        have sa3 : (1 : Int) ≤ (ta.length : Int) + 1 := by omega
        clear hP hca hcb hm hpe ga gb ha hat hv0
        go_wp2_with fail
        go_quiet (fail)
        go_wp2_with fail
        have hbe := HP.out.bel
        refine (HTell.out _ (HDr.out _ _ _ HP.out.inv) (Bdrew hbe _)).mono ?_
        rintro e w5 ⟨rfl, hI5, hb5⟩
        have HI5 := Lib.hid (And.intro hI5 hb5)
        clear hI5 hb5 hbe
        generalize hT : T (some x, none) = t at *
        have HTt := Lib.hid hT
        clear hT
        cases t with
        | false =>
          go_wp2_with fail
          simp only [Exit.jump]
          go_ret
          have e : (pairs a b).all T = false := by rw [HS.out.2, List.all_append, List.all_cons, HTt.out]; simp
          exact ⟨by rw [e] <;> rfl, (fun h => by rw [e] at h; cases h), HI5.out.2⟩
        | true =>
          go_wp2_with fail
          go_step3
          refine ⟨rfl, ⟨_, _, m, ta, [], d ++ [(some x, none)], _, _, _, _, _, _, _, _, _, _, _, _, _, _, _, _, _, _, _, _, _, _, _, _, _, _, _, _, _, _, _, _, _, _, _, _, _, _, _, _, _, _, _, _, _, _, _, _, rfl, ⟨HRA.out, HP.out.rb, by (try simp only [List.length_cons, List.length_nil]); have := HS.out.1; omega, by rw [HS.out.2, List.append_assoc]; rfl, by rw [List.all_append, HP.out.all, List.all_cons, HTt.out]; rfl, HI5.out.1 (by first | rfl | trivial), HI5.out.2, fun z hz => HP.out.sa z (List.mem_cons_of_mem _ hz), fun z hz => HP.out.sb z (hz), by have := HP.out.len; (try simp only [List.length_cons, List.length_nil, List.length_append] at *); omega⟩⟩, ?_⟩
          simp [lenOf] <;> omega
      | cons y tb =>
        by_cases hz : Zb.cmp x.p y.p < 0
        · skip
          have HP := Lib.hid hP
          obtain ⟨⟨Aa, ca, ea, ga⟩, hca⟩ := hP.ra
          obtain ⟨⟨Ab, cb, eb, gb⟩, hcb⟩ := hP.rb
          subst ea eb
          simp only [List.length_cons, List.length_nil] at *
          obtain ⟨ba, oa, rfl, ha⟩ := ga (by omega)
          have hat := ha 0 (by simp)
          simp only [Nat.zero_mul, Nat.add_zero, List.getElem_cons_zero] at hat
          have hatw := hat.keep (Below.keeps hP.bel)
          obtain ⟨v0, k0, hv0, _⟩ := hatw
          have hla : ba < w'.heap.size := World.block_lt_of_cell? w' _ k0
          have HA := Lib.hid hat
          have h1a : 1 ≤ ca := by obtain ⟨A9, n9, c9, e9, h9, _⟩ := hca; injection e9 with _ e1 e2; omega
          obtain ⟨Ax, hAx⟩ : ∃ Ax, (if ca = 1 then some (⟨ba, oa, none⟩ : Addr) else some ⟨ba, oa + 5, none⟩) = Ax := ⟨_, rfl⟩
          have HRA := Lib.hid (show RdC W (.slice Ax ta.length (ca - 1)) ta ∧ CapOk (.slice Ax ta.length (ca - 1)) from hAx ▸ tailC HP.out.ra hca)
          obtain ⟨bb, ob, rfl, hb⟩ := gb (by omega)
          have hbt := hb 0 (by simp)
          simp only [Nat.zero_mul, Nat.add_zero, List.getElem_cons_zero] at hbt
          have hbtw := hbt.keep (Below.keeps hP.bel)
          obtain ⟨w0, m0, hw0, _⟩ := hbtw
          have hlb : bb < w'.heap.size := World.block_lt_of_cell? w' _ m0
          have HBt := Lib.hid hbt
          have h1b : 1 ≤ cb := by obtain ⟨A9, n9, c9, e9, h9, _⟩ := hcb; injection e9 with _ e1 e2; omega
          have HCm := Lib.hid (fun (w'' : World) (h1 : RdU w'' v0 (pti x.p)) (h2 : RdU w'' w0 (pti y.p)) => zCmp_any x.p y.p v0 w0 w'' h1 h2 (by rw [RA.out.len _ (HP.out.sa _ (List.mem_cons_self ..)), RB.out.len _ (HP.out.sb _ (List.mem_cons_self ..))]) (by rw [RA.out.len _ (HP.out.sa _ (List.mem_cons_self ..))]; exact HK.out.1) (by rw [RA.out.len _ (HP.out.sa _ (List.mem_cons_self ..))]; exact HK.out.2.1) (RA.out.ok _ (HP.out.sa _ (List.mem_cons_self ..))) (RB.out.ok _ (HP.out.sb _ (List.mem_cons_self ..))))
          have HV := Lib.hid (And.intro hv0 hw0)
          obtain ⟨A0, cc, rfl, hx0⟩ := RdU.point hv0
          obtain ⟨A1, cd, rfl, hx1⟩ := RdU.point hw0
          clear hx0 hx1
          obtain ⟨m, hm, hpe⟩ := HP.out.lt hz
          have HS := Lib.hid (And.intro hm hpe)
          have HTell := Lib.hid (fun (w'' : World) (hi : Inv d w'') (hbe : Below W.heap.size W w'') => HT.out d (some x, none) (.pointer (some ⟨ba, oa, none⟩)) (.pointer none) w'' hi hbe (HA.out.keep (Below.keeps hbe) |> fun h => ⟨_, _, rfl, h⟩) rfl (fun z hz => by injection hz with hz; subst hz; exact HP.out.sa _ (List.mem_cons_self ..)) (fun z hz => by cases hz) (by have := HP.out.len; have := HK.out.2.2; simp at *; omega) (by simp))
          generalize Zb.cmp x.p y.p = z at *
          have z1 : z ≤ 0 := by omega
          have z2 : ¬ z ≥ 0 := by omega
          have sa1 : ((ta.length : Int) + 1 == 0) = false := by simp; omega
          have sa2 : (0 : Int) < (ta.length : Int) + 1 := by omega
          have sa3 : (1 : Int) ≤ (ta.length : Int) + 1 := by omega
          have sb1 : ((tb.length : Int) + 1 == 0) = false := by simp; omega
          have sb2 : (0 : Int) < (tb.length : Int) + 1 := by omega
          have sb3 : (1 : Int) ≤ (tb.length : Int) + 1 := by omega
          clear hP hca hcb hm hpe ga gb ha hat hv0 hb hbt hw0 hz
          go_wp2_with fail
          go_quiet ((go_at_call 125; exact Calls.quiet_of_same ((HCm.out _ (RdU.drewN HV.out.1 _) (RdU.drewN HV.out.2 _)).mono fun e w' ⟨h1, h2⟩ => ⟨h1, h2⟩)))
          go_wp2_with fail
          go_quiet (fail)
          go_wp2_with fail
          have hbe := HP.out.bel
          refine (HTell.out _ (HDr.out _ _ _ HP.out.inv) (Bdrew hbe _)).mono ?_
          rintro e w5 ⟨rfl, hI5, hb5⟩
          have HI5 := Lib.hid (And.intro hI5 hb5)
          clear hI5 hb5 hbe
          generalize hT : T (some x, none) = t at *
          have HTt := Lib.hid hT
          clear hT
          cases t with
          | false =>
            go_wp2_with fail
            simp only [Exit.jump]
            go_ret
            have e : (pairs a b).all T = false := by rw [HS.out.2, List.all_append, List.all_cons, HTt.out]; simp
            exact ⟨by rw [e] <;> rfl, (fun h => by rw [e] at h; cases h), HI5.out.2⟩
          | true =>
            go_wp2_with fail
            go_step3
            refine ⟨rfl, ⟨_, _, m, ta, (y :: tb), d ++ [(some x, none)], _, _, _, _, _, _, _, _, _, _, _, _, _, _, _, _, _, _, _, _, _, _, _, _, _, _, _, _, _, _, _, _, _, _, _, _, _, _, _, _, _, _, _, _, _, _, _, _, rfl, ⟨HRA.out, HP.out.rb, by (try simp only [List.length_cons, List.length_nil]); have := HS.out.1; omega, by rw [HS.out.2, List.append_assoc]; rfl, by rw [List.all_append, HP.out.all, List.all_cons, HTt.out]; rfl, HI5.out.1 (by first | rfl | trivial), HI5.out.2, fun z hz => HP.out.sa z (List.mem_cons_of_mem _ hz), fun z hz => HP.out.sb z (hz), by have := HP.out.len; (try simp only [List.length_cons, List.length_nil, List.length_append] at *); omega⟩⟩, ?_⟩
            simp [lenOf] <;> omega
        · by_cases hz2 : 0 < Zb.cmp x.p y.p
          · skip
            have HP := Lib.hid hP
            obtain ⟨⟨Aa, ca, ea, ga⟩, hca⟩ := hP.ra
            obtain ⟨⟨Ab, cb, eb, gb⟩, hcb⟩ := hP.rb
            subst ea eb
            simp only [List.length_cons, List.length_nil] at *
            obtain ⟨ba, oa, rfl, ha⟩ := ga (by omega)
            have hat := ha 0 (by simp)
            simp only [Nat.zero_mul, Nat.add_zero, List.getElem_cons_zero] at hat
            have hatw := hat.keep (Below.keeps hP.bel)
            obtain ⟨v0, k0, hv0, _⟩ := hatw
            have hla : ba < w'.heap.size := World.block_lt_of_cell? w' _ k0
            have HA := Lib.hid hat
            have h1a : 1 ≤ ca := by obtain ⟨A9, n9, c9, e9, h9, _⟩ := hca; injection e9 with _ e1 e2; omega
            obtain ⟨bb, ob, rfl, hb⟩ := gb (by omega)
            have hbt := hb 0 (by simp)
            simp only [Nat.zero_mul, Nat.add_zero, List.getElem_cons_zero] at hbt
            have hbtw := hbt.keep (Below.keeps hP.bel)
            obtain ⟨w0, m0, hw0, _⟩ := hbtw
            have hlb : bb < w'.heap.size := World.block_lt_of_cell? w' _ m0
            have HBt := Lib.hid hbt
            have h1b : 1 ≤ cb := by obtain ⟨A9, n9, c9, e9, h9, _⟩ := hcb; injection e9 with _ e1 e2; omega
            obtain ⟨Ay, hAy⟩ : ∃ Ay, (if cb = 1 then some (⟨bb, ob, none⟩ : Addr) else some ⟨bb, ob + 5, none⟩) = Ay := ⟨_, rfl⟩
            have HRB := Lib.hid (show RdC W (.slice Ay tb.length (cb - 1)) tb ∧ CapOk (.slice Ay tb.length (cb - 1)) from hAy ▸ tailC HP.out.rb hcb)
            have HCm := Lib.hid (fun (w'' : World) (h1 : RdU w'' v0 (pti x.p)) (h2 : RdU w'' w0 (pti y.p)) => zCmp_any x.p y.p v0 w0 w'' h1 h2 (by rw [RA.out.len _ (HP.out.sa _ (List.mem_cons_self ..)), RB.out.len _ (HP.out.sb _ (List.mem_cons_self ..))]) (by rw [RA.out.len _ (HP.out.sa _ (List.mem_cons_self ..))]; exact HK.out.1) (by rw [RA.out.len _ (HP.out.sa _ (List.mem_cons_self ..))]; exact HK.out.2.1) (RA.out.ok _ (HP.out.sa _ (List.mem_cons_self ..))) (RB.out.ok _ (HP.out.sb _ (List.mem_cons_self ..))))
            have HV := Lib.hid (And.intro hv0 hw0)
            obtain ⟨A0, cc, rfl, hx0⟩ := RdU.point hv0
            obtain ⟨A1, cd, rfl, hx1⟩ := RdU.point hw0
            clear hx0 hx1
            obtain ⟨m, hm, hpe⟩ := HP.out.gt hz hz2
            have HS := Lib.hid (And.intro hm hpe)
            have HTell := Lib.hid (fun (w'' : World) (hi : Inv d w'') (hbe : Below W.heap.size W w'') => HT.out d (none, some y) (.pointer none) (.pointer (some ⟨bb, ob, none⟩)) w'' hi hbe rfl (HBt.out.keep (Below.keeps hbe) |> fun h => ⟨_, _, rfl, h⟩) (fun z hz => by cases hz) (fun z hz => by injection hz with hz; subst hz; exact HP.out.sb _ (List.mem_cons_self ..)) (by have := HP.out.len; have := HK.out.2.2; simp at *; omega) (by simp))
            generalize Zb.cmp x.p y.p = z at *
            have z1 : ¬ z ≤ 0 := by omega
            have z2 : z ≥ 0 := by omega
            have sa1 : ((ta.length : Int) + 1 == 0) = false := by simp; omega
            have sa2 : (0 : Int) < (ta.length : Int) + 1 := by omega
            have sa3 : (1 : Int) ≤ (ta.length : Int) + 1 := by omega
            have sb1 : ((tb.length : Int) + 1 == 0) = false := by simp; omega
            have sb2 : (0 : Int) < (tb.length : Int) + 1 := by omega
            have sb3 : (1 : Int) ≤ (tb.length : Int) + 1 := by omega
            clear hP hca hcb hm hpe ga gb ha hat hv0 hb hbt hw0 hz hz2
            go_wp2_with fail
            go_quiet ((go_at_call 125; exact Calls.quiet_of_same ((HCm.out _ (RdU.drewN HV.out.1 _) (RdU.drewN HV.out.2 _)).mono fun e w' ⟨h1, h2⟩ => ⟨h1, h2⟩)))
            go_wp2_with fail
            go_quiet (fail)
            go_wp2_with fail
            have hbe := HP.out.bel
            refine (HTell.out _ (HDr.out _ _ _ HP.out.inv) (Bdrew hbe _)).mono ?_
            rintro e w5 ⟨rfl, hI5, hb5⟩
            have HI5 := Lib.hid (And.intro hI5 hb5)
            clear hI5 hb5 hbe
            generalize hT : T (none, some y) = t at *
            have HTt := Lib.hid hT
            clear hT
            cases t with
            | false =>
              go_wp2_with fail
              simp only [Exit.jump]
              go_ret
              have e : (pairs a b).all T = false := by rw [HS.out.2, List.all_append, List.all_cons, HTt.out]; simp
              exact ⟨by rw [e] <;> rfl, (fun h => by rw [e] at h; cases h), HI5.out.2⟩
            | true =>
              go_wp2_with fail
              go_step3
              refine ⟨rfl, ⟨_, _, m, (x :: ta), tb, d ++ [(none, some y)], _, _, _, _, _, _, _, _, _, _, _, _, _, _, _, _, _, _, _, _, _, _, _, _, _, _, _, _, _, _, _, _, _, _, _, _, _, _, _, _, _, _, _, _, _, _, _, _, rfl, ⟨HP.out.ra, HRB.out, by (try simp only [List.length_cons, List.length_nil]); have := HS.out.1; omega, by rw [HS.out.2, List.append_assoc]; rfl, by rw [List.all_append, HP.out.all, List.all_cons, HTt.out]; rfl, HI5.out.1 (by first | rfl | trivial), HI5.out.2, fun z hz => HP.out.sa z (hz), fun z hz => HP.out.sb z (List.mem_cons_of_mem _ hz), by have := HP.out.len; (try simp only [List.length_cons, List.length_nil, List.length_append] at *); omega⟩⟩, ?_⟩
              simp [lenOf] <;> omega
          · skip
            have HP := Lib.hid hP
            obtain ⟨⟨Aa, ca, ea, ga⟩, hca⟩ := hP.ra
            obtain ⟨⟨Ab, cb, eb, gb⟩, hcb⟩ := hP.rb
            subst ea eb
            simp only [List.length_cons, List.length_nil] at *
            obtain ⟨ba, oa, rfl, ha⟩ := ga (by omega)
            have hat := ha 0 (by simp)
            simp only [Nat.zero_mul, Nat.add_zero, List.getElem_cons_zero] at hat
            have hatw := hat.keep (Below.keeps hP.bel)
            obtain ⟨v0, k0, hv0, _⟩ := hatw
            have hla : ba < w'.heap.size := World.block_lt_of_cell? w' _ k0
            have HA := Lib.hid hat
            have h1a : 1 ≤ ca := by obtain ⟨A9, n9, c9, e9, h9, _⟩ := hca; injection e9 with _ e1 e2; omega
            obtain ⟨Ax, hAx⟩ : ∃ Ax, (if ca = 1 then some (⟨ba, oa, none⟩ : Addr) else some ⟨ba, oa + 5, none⟩) = Ax := ⟨_, rfl⟩
            have HRA := Lib.hid (show RdC W (.slice Ax ta.length (ca - 1)) ta ∧ CapOk (.slice Ax ta.length (ca - 1)) from hAx ▸ tailC HP.out.ra hca)
            obtain ⟨bb, ob, rfl, hb⟩ := gb (by omega)
            have hbt := hb 0 (by simp)
            simp only [Nat.zero_mul, Nat.add_zero, List.getElem_cons_zero] at hbt
            have hbtw := hbt.keep (Below.keeps hP.bel)
            obtain ⟨w0, m0, hw0, _⟩ := hbtw
            have hlb : bb < w'.heap.size := World.block_lt_of_cell? w' _ m0
            have HBt := Lib.hid hbt
            have h1b : 1 ≤ cb := by obtain ⟨A9, n9, c9, e9, h9, _⟩ := hcb; injection e9 with _ e1 e2; omega
            obtain ⟨Ay, hAy⟩ : ∃ Ay, (if cb = 1 then some (⟨bb, ob, none⟩ : Addr) else some ⟨bb, ob + 5, none⟩) = Ay := ⟨_, rfl⟩
            have HRB := Lib.hid (show RdC W (.slice Ay tb.length (cb - 1)) tb ∧ CapOk (.slice Ay tb.length (cb - 1)) from hAy ▸ tailC HP.out.rb hcb)
            have HCm := Lib.hid (fun (w'' : World) (h1 : RdU w'' v0 (pti x.p)) (h2 : RdU w'' w0 (pti y.p)) => zCmp_any x.p y.p v0 w0 w'' h1 h2 (by rw [RA.out.len _ (HP.out.sa _ (List.mem_cons_self ..)), RB.out.len _ (HP.out.sb _ (List.mem_cons_self ..))]) (by rw [RA.out.len _ (HP.out.sa _ (List.mem_cons_self ..))]; exact HK.out.1) (by rw [RA.out.len _ (HP.out.sa _ (List.mem_cons_self ..))]; exact HK.out.2.1) (RA.out.ok _ (HP.out.sa _ (List.mem_cons_self ..))) (RB.out.ok _ (HP.out.sb _ (List.mem_cons_self ..))))
            have HV := Lib.hid (And.intro hv0 hw0)
            obtain ⟨A0, cc, rfl, hx0⟩ := RdU.point hv0
            obtain ⟨A1, cd, rfl, hx1⟩ := RdU.point hw0
            clear hx0 hx1
            obtain ⟨m, hm, hpe⟩ := HP.out.eq hz hz2
            have HS := Lib.hid (And.intro hm hpe)
            have HTell := Lib.hid (fun (w'' : World) (hi : Inv d w'') (hbe : Below W.heap.size W w'') => HT.out d (some x, some y) (.pointer (some ⟨ba, oa, none⟩)) (.pointer (some ⟨bb, ob, none⟩)) w'' hi hbe (HA.out.keep (Below.keeps hbe) |> fun h => ⟨_, _, rfl, h⟩) (HBt.out.keep (Below.keeps hbe) |> fun h => ⟨_, _, rfl, h⟩) (fun z hz => by injection hz with hz; subst hz; exact HP.out.sa _ (List.mem_cons_self ..)) (fun z hz => by injection hz with hz; subst hz; exact HP.out.sb _ (List.mem_cons_self ..)) (by have := HP.out.len; have := HK.out.2.2; simp at *; omega) (by simp))
            generalize Zb.cmp x.p y.p = z at *
            have z1 : z ≤ 0 := by omega
            have z2 : z ≥ 0 := by omega
            have sa1 : ((ta.length : Int) + 1 == 0) = false := by simp; omega
            have sa2 : (0 : Int) < (ta.length : Int) + 1 := by omega
            have sa3 : (1 : Int) ≤ (ta.length : Int) + 1 := by omega
            have sb1 : ((tb.length : Int) + 1 == 0) = false := by simp; omega
            have sb2 : (0 : Int) < (tb.length : Int) + 1 := by omega
            have sb3 : (1 : Int) ≤ (tb.length : Int) + 1 := by omega
            clear hP hca hcb hm hpe ga gb ha hat hv0 hb hbt hw0 hz hz2
            go_wp2_with fail
            go_quiet ((go_at_call 125; exact Calls.quiet_of_same ((HCm.out _ (RdU.drewN HV.out.1 _) (RdU.drewN HV.out.2 _)).mono fun e w' ⟨h1, h2⟩ => ⟨h1, h2⟩)))
            go_wp2_with fail
            go_quiet (fail)
            go_wp2_with fail
            go_quiet (fail)
            go_wp2_with fail
            have hbe := HP.out.bel
            refine (HTell.out _ (HDr.out _ _ _ HP.out.inv) (Bdrew hbe _)).mono ?_
            rintro e w5 ⟨rfl, hI5, hb5⟩
            have HI5 := Lib.hid (And.intro hI5 hb5)
            clear hI5 hb5 hbe
            generalize hT : T (some x, some y) = t at *
            have HTt := Lib.hid hT
            clear hT
            cases t with
            | false =>
              go_wp2_with fail
              simp only [Exit.jump]
              go_ret
              have e : (pairs a b).all T = false := by rw [HS.out.2, List.all_append, List.all_cons, HTt.out]; simp
              exact ⟨by rw [e] <;> rfl, (fun h => by rw [e] at h; cases h), HI5.out.2⟩
            | true =>
              go_wp2_with fail
              go_step3
              refine ⟨rfl, ⟨_, _, m, ta, tb, d ++ [(some x, some y)], _, _, _, _, _, _, _, _, _, _, _, _, _, _, _, _, _, _, _, _, _, _, _, _, _, _, _, _, _, _, _, _, _, _, _, _, _, _, _, _, _, _, _, _, _, _, _, _, rfl, ⟨HRA.out, HRB.out, by (try simp only [List.length_cons, List.length_nil]); have := HS.out.1; omega, by rw [HS.out.2, List.append_assoc]; rfl, by rw [List.all_append, HP.out.all, List.all_cons, HTt.out]; rfl, HI5.out.1 (by first | rfl | trivial), HI5.out.2, fun z hz => HP.out.sa z (List.mem_cons_of_mem _ hz), fun z hz => HP.out.sb z (List.mem_cons_of_mem _ hz), by have := HP.out.len; (try simp only [List.length_cons, List.length_nil, List.length_append] at *); omega⟩⟩, ?_⟩
              simp [lenOf] <;> omega
  · intro Q' hR
    have hR := Lib.hid hR
    go_wp2_with fail
    go_step3
    simp only [Exit.then]
    rename_i hK
    refine hK _ _ ?_
    refine hR.out _ _ ?_
    exact ⟨_, _, _, a, b, [], _, _, _, _, _, _, _, _, _, _, _, _, _, _, _, _, _, _, _, _, _, _, _, _, _, _, _, _, _, _, _, _, _, _, _, _, _, _, _, _, _, _, _, _, _, _, _, _, rfl, H0.out⟩
end Go.Proofs.YtdkomhmciihkiaaGreat
/-! WlkB -/
namespace Go.Proofs.YtdkomhmciihkiaaGreat
open Go.RowKit
set_option linter.unusedVariables false
set_option linter.unusedSimpArgs false
set_option maxRecDepth 100000

/-- so much has been gathered in the captured variable -/
def InvD (W : World) (B : Nat) (o : List En) (w : World) : Prop :=
  ∃ vo, w.heap[B]? = some (.cells #[vo] 44 (0, 0)) ∧ OwnD (PtNew w) W w vo o ∧ Below W.heap.size W w
theorem InvD.bel {W w : World} {B : Nat} {o : List En} (h : InvD W B o w) : Below W.heap.size W w := let ⟨_, _, _, h⟩ := h; h
theorem InvD.below {W w w' : World} {B : Nat} {o : List En} (h : InvD W B o w) (hb : Below w.heap.size w w') : InvD W B o w' :=
  let ⟨vo, h1, h2, h3⟩ := h
  ⟨vo, (hb.block B (lt_of_block h1)).trans h1, (h2.below hb).mono fun u p h => h.below hb, h3.trans (hb.mono h3.size)⟩
theorem InvD.push {W w3 w4 : World} {B : Nat} {vo v' : Value} {o o' : List En} (hB : W.heap.size ≤ B) (hblk : w3.heap[B]? = some (.cells #[vo] 44 (0, 0))) (hown : OwnD (PtNew w3) W w3 vo o) (hb : Below W.heap.size W w3)
    (hown' : OwnD (PtNew w3) W w4 v' o') (hg : w3.grownBy w4 vo.ownBlock) : w4.heap[B]? = some (.cells #[vo] 44 (0, 0)) ∧ InvD W B o' (w4.setCell ⟨B, 0, none⟩ v') := by
  have hneB : some B ≠ vo.ownBlock := by
    intro e
    obtain ⟨_, cur, hc⟩ := hown.block B e.symm
    rw [hblk] at hc
    injection hc with hc
    injection hc with _ hc _
    exact absurd hc (by decide)
  have h4 : w4.heap[B]? = some (.cells #[vo] 44 (0, 0)) := (hg.block B (lt_of_block hblk) hneB).trans hblk
  have hneB' : v'.ownBlock ≠ some B := by
    intro e
    obtain ⟨_, cur, hc⟩ := hown'.block B e
    rw [h4] at hc
    injection hc with hc
    injection hc with _ hc _
    exact absurd hc (by decide)
  refine ⟨h4, v', one_setCell h4, ?_, ?_⟩
  · obtain ⟨cs, ho, hc⟩ := hown'
    refine ⟨cs, ownsRow_setCell_other ho hneB' _, hc.mono fun u p hp => ?_⟩
    have hp4 : PtNew w4 u p := PtNew.grownD hown hg u p hp
    exact hp4.keepBlock fun b cur fr hbk => by
      refine Below.heap_setCell _ _ _ _ ?_
      intro e
      have e' : b = B := e
      rw [e', h4] at hbk
      injection hbk with hbk
      injection hbk with _ hbk _
      exact absurd hbk (by decide)
  · exact (hb.grown hg hb.size fun k hk => (hown.block k hk).1).setCell hB _
set_option maxHeartbeats 1000000 in
theorem allTell (W w : World) (B : Nat) (o : List En) (e : En) (u : Value) (hW : W.heap.size ≤ B) (hi : InvD W B o w) (hu : PtNew w u e.p) (hol : o.length ≤ 10000) :
    Calls Tryz.prog 127 (#[.agg #[u, .int .u64 (e.v : Nat)]] ++ #[.pointer (some ⟨B, 0, none⟩)]) w fun r w' => r = .returned (.bool true) ∧ InvD W B (o ++ [e]) w' ∧ Below W.heap.size W w' := by
  obtain ⟨vo, hblk, hown, hbW⟩ := hi
  have kb := cell_of_one hblk
  have hlB := lt_of_block hblk
  have HI := Lib.hid (And.intro hblk (And.intro hown (And.intro hbW (And.intro hW (And.intro hol hu)))))
  obtain ⟨Au, cu, rfl, _⟩ := RdU.point hu.rd
  obtain ⟨Ao, co, rfl⟩ := hown.shape
  obtain ⟨p, x⟩ := e
  clear hblk hown hbW hW hol hu
  show Calls Tryz.prog 127 #[.agg #[.slice Au p.length cu, .int .u64 (x : Nat)], .pointer (some ⟨B, 0, none⟩)] w _
  go_enter Tryz.func127, Tryz.ntmps127
  go_wp2_with ((at_builtin; refine wpList_append_D (Pt := PtNew w) rfl (.tmp 4) (.tmp 6) rfl W o ⟨p, x⟩ ?_ ?_ ?_ ?_ ?_ ?_))
  · exact fun u p h => h.rd.below (by repeat (first | exact Below.refl _ _ | (refine Below.drew ?_) | (refine below_drewN' ?_ _) | (refine below_alloc' ?_ _) | (refine Below.setCell ?_ (by first | exact Nat.le_refl _ | (simp; done) | (simp; omega)) _)))
  · exact HI.out.2.1.below (by repeat (first | exact Below.refl _ _ | (refine Below.drew ?_) | (refine below_drewN' ?_ _) | (refine below_alloc' ?_ _) | (refine Below.setCell ?_ (by first | exact Nat.le_refl _ | (simp; done) | (simp; omega)) _)))
  · exact ⟨_, _, _, rfl, by simp [go_sem], HI.out.2.2.2.2.2, by simp [go_sem]⟩
  · have := HI.out.2.2.1.size; simp; omega
  · have := HI.out.2.2.2.2.1; omega
  intro v' w4 hown4 hg4
  obtain ⟨A4, c4, rfl⟩ := hown4.shape
  have hbe : Below w.heap.size w ((w.alloc (.cells #[.slice Au p.length cu, .int .u64 (x : Nat)] 35)).alloc (.cells #[.slice Au p.length cu, .int .u64 (x : Nat)] 35)) := (by repeat (first | exact Below.refl _ _ | (refine Below.drew ?_) | (refine below_drewN' ?_ _) | (refine below_alloc' ?_ _) | (refine Below.setCell ?_ (by first | exact Nat.le_refl _ | (simp; done) | (simp; omega)) _)))
  obtain ⟨hb6, hI6⟩ := InvD.push HI.out.2.2.2.1 ((hbe.block B hlB).trans HI.out.1) ((HI.out.2.1.below hbe).mono fun u p h => h.below hbe) (HI.out.2.2.1.trans (hbe.mono HI.out.2.2.1.size)) (hown4.mono fun u p h => h.below hbe) hg4
  have c6 := cell_of_one hb6
  have f6 := free_of_one hb6
  have hl6 := lt_of_block hb6
  have HI6 := Lib.hid hI6
  clear hown4 hg4 hb6 hI6 hbe kb hlB
  go_wp2_with fail
  go_ret
  exact ⟨rfl, by simpa using HI6.out, by simpa using HI6.out.bel⟩
theorem allFn (W : World) (B N : Nat) (hW : W.heap.size ≤ B) (hN : N ≤ 10000) : Tell W 127 #[.pointer (some ⟨B, 0, none⟩)] N (InvD W B) :=
  ⟨enters_func (Tryz.func127) (by kernel_rfl) (by kernel_rfl), fun d e u w' hd hi hb hu => allTell W w' B d e u hW hi hu (by omega), fun d w' w'' h hb => h.below hb⟩
def AllP (W : World) (l : List En) (e : Ending) (w' : World) : Prop := ∃ v, e = .returned v ∧ OwnD (PtNew w') W w' v l ∧ Below W.heap.size W w'
theorem wall_any (w : World) (k : Nat) (r : Option Nat) (l : List En) (hr : RtN w k r l) (k1 : 1 ≤ k) (k16 : k ≤ 16) (hl : l.length ≤ 10000) : Calls Tryz.prog 67 #[pv r] w fun e w' => AllP w l e w' := by
  have HE := Lib.hid (show ∀ w', InvD w w.heap.size [] w' → Calls Tryz.prog 126 #[pv r, .func (.func 127) #[] #[.pointer (some ⟨w.heap.size, 0, none⟩)]] w' fun e w'' => EachP w (InvD w w.heap.size) l e w'' from fun w' hi => by
    cases r with
    | none =>
      obtain rfl : l = [] := hr
      exact (each_nil w' _ _).mono fun e w'' ⟨h1, h2⟩ => ⟨h1, h2 ▸ hi, h2 ▸ hi.bel⟩
    | some b => exact each_nd w _ _ l.length k _ (allFn w _ l.length (Nat.le_refl _) hl) k1 k16 hr w' [] hi hi.bel (by simp))
  have H0 := Lib.hid (show InvD w w.heap.size [] (w.alloc (.cells #[.slice none 0 0] 44)) from ⟨_, alloc_blk _ _, OwnD.nil _ _ _, (by repeat (first | exact Below.refl _ _ | (refine Below.drew ?_) | (refine below_drewN' ?_ _) | (refine below_alloc' ?_ _) | (refine Below.setCell ?_ (by first | exact Nat.le_refl _ | (simp; done) | (simp; omega)) _)))⟩)
  obtain ⟨q, hq⟩ := pv_ex r
  rw [hq] at HE ⊢
  clear hr hl hq k1 k16
  go_enter Tryz.func67, Tryz.ntmps67
  go_wp2_with fail
  refine (HE.out _ H0.out).mono ?_
  rintro e w1 ⟨rfl, ⟨vo, hblk, hown, hb⟩, _⟩
  have HF := Lib.hid (And.intro hown hb)
  have kb := cell_of_one hblk
  have hl := lt_of_block hblk
  clear hown hb hblk H0
  go_wp2_with fail
  go_ret
  exact ⟨_, rfl, HF.out⟩
end Go.Proofs.YtdkomhmciihkiaaGreat
/-! NdE -/
namespace Go.Proofs.YtdkomhmciihkiaaGreat
open Go.RowKit
set_option linter.unusedVariables false
set_option maxRecDepth 100000

theorem nodeInfo : ∃ j, Tryz.prog.info? 265 = some j ∧ j.size ≠ 0 := by
  have h : (Tryz.prog.info? 265).map (fun i => i.size) = some 8 := by kernel_rfl
  cases e : Tryz.prog.info? 265 with
  | none => rw [e] at h; cases h
  | some j =>
    rw [e] at h
    have h : j.size = 8 := by simpa using h
    exact ⟨j, rfl, by omega⟩
theorem nodeUnder : Tryz.prog.underlying 113 = some (.pointer 265) := by kernel_rfl
theorem node_same (w : World) (g : Nat) : (binOp .eql 113 (.pointer (some ⟨g, 0, none⟩)) (.pointer (some ⟨g, 0, none⟩))).run Tryz.prog w = .ok (.bool true) w := by
  obtain ⟨j, hj, _⟩ := nodeInfo
  exact run_eql_ptr_same w _ nodeUnder hj
theorem node_other {w : World} {g t k k' : Nat} {l l' : List En} (hg : Nd w k g l) (ht : Nd w k' t l') (hne : g ≠ t) : (binOp .eql 113 (.pointer (some ⟨g, 0, none⟩)) (.pointer (some ⟨t, 0, none⟩))).run Tryz.prog w = .ok (.bool false) w := by
  obtain ⟨v1, p1, q1⟩ := hg.hd
  obtain ⟨v2, p2, q2⟩ := ht.hd
  obtain ⟨c1, h1⟩ := q1.blk
  obtain ⟨c2, h2⟩ := q2.blk
  obtain ⟨j, hj, hsz⟩ := nodeInfo
  exact run_eql_ptr_other w nodeUnder hj hsz (by intro h; injection h with h; exact hne h) h1 h2
theorem root_eql {w : World} {k k' : Nat} {r r' : Option Nat} {l l' : List En} (h : RtN w k r l) (h' : RtN w k' r' l') : (binOp .eql 113 (pv r) (pv r')).run Tryz.prog w = .ok (.bool (decide (r = r'))) w := by
  cases r with
  | none =>
    cases r' with
    | none => rfl
    | some b => rfl
  | some a =>
    cases r' with
    | none => rfl
    | some b =>
      by_cases e : a = b
      · subst e
        rw [decide_eq_true rfl]
        exact node_same w a
      · rw [decide_eq_false (by intro h; injection h with h; exact e h)]
        exact node_other h h' e
end Go.Proofs.YtdkomhmciihkiaaGreat
