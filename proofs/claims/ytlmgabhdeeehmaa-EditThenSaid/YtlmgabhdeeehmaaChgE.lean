/-
  The walks of pantileref12.Change and Changes.
-/
import Derived.Test.YtlmgabhdeeehmaaEntC
namespace Go.Proofs.Ytlmgabhdeeehmaa
open Go.RowKit
set_option linter.unusedVariables false
set_option linter.unusedSimpArgs false

/-- a result that is not written yet -/
def New5 (w : World) (g : Nat) : Prop := (w.cell? ⟨g, 0, none⟩ = some (.slice none 0 0) ∧ w.cell? ⟨g, 1, none⟩ = some (.bool false) ∧ w.cell? ⟨g, 2, none⟩ = some (.bool false) ∧ w.cell? ⟨g, 3, none⟩ = some (.int .u64 0) ∧ w.cell? ⟨g, 4, none⟩ = some (.int .u64 0)) ∧ (∀ k, w.frozen? ⟨g, k, none⟩ = false) ∧ g < w.heap.size
theorem New5.below {w w' : World} {g : Nat} (h : New5 w g) (hb : Below w.heap.size w w') : New5 w' g :=
  let ⟨⟨h0, h1, h2, h3, h4⟩, hf, hl⟩ := h
  ⟨⟨Below.keeps hb _ _ h0, Below.keeps hb _ _ h1, Below.keeps hb _ _ h2, Below.keeps hb _ _ h3, Below.keeps hb _ _ h4⟩, fun k => (hb.frozen (p := ⟨g, k, none⟩) hl).trans (hf k), Nat.lt_of_lt_of_le hl hb.size⟩
theorem New5.mk (w : World) : New5 (w.alloc Zcells) w.heap.size := by unfold Zcells; exact ⟨⟨by simp [go_sem], by simp [go_sem], by simp [go_sem], by simp [go_sem], by simp [go_sem]⟩, fun k => by simp [go_sem], by simp⟩
def chgB (h1 h2 : Bool) (x y : Int) : Bool := h1 != h2 || decide (x ≠ y)
/-- what Change hands back -/
def ChgP (W : World) (vp : Value) (A B : Option Nat) (e : Ending) (w' : World) : Prop :=
  e = .returned (.tuple #[.agg #[vp, .bool A.isSome, .bool B.isSome, .int .u64 (A.getD 0 : Nat), .int .u64 (B.getD 0 : Nat)], .bool (chgB A.isSome B.isSome (A.getD 0 : Nat) (B.getD 0 : Nat))]) ∧ Below W.heap.size W w'

set_option maxRecDepth 8000 in
set_option maxHeartbeats 2000000 in
theorem rChange_any (k : Nat) (a b : List En) (p : List Nat) (va vb vp : Value) (w : World) (ha : RdE w va a) (hb : RdE w vb b) (hp : RdU w vp (pti p)) (sa : EtS k a) (sb : EtS k b) (hs : PtS k p) :
    Calls Try.prog 140 #[va, vb, vp] w fun e w' => ChgP w vp (getE a p) (getE b p) e w' := by
  have HA := Lib.hid (fun (w' : World) (h1 : RdE w' va a) (h2 : RdU w' vp (pti p)) => rGet_any k a p va vp w' h1 h2 sa hs)
  have HB := Lib.hid (fun (w' : World) (h1 : RdE w' vb b) (h2 : RdU w' vp (pti p)) => rGet_any k b p vb vp w' h1 h2 sb hs)
  have HR := Lib.hid (And.intro ha (And.intro hb hp))
  unfold ChgP
  obtain ⟨A0, cc, rfl, hx0⟩ := RdU.point hp
  generalize (getE a p).isSome = h1 at *
  generalize (getE b p).isSome = h2 at *
  generalize (((getE a p).getD 0 : Nat) : Int) = x at *
  generalize (((getE b p).getD 0 : Nat) : Int) = y at *
  clear ha hb hp sa sb hs hx0
  obtain ⟨bb, hbb⟩ : ∃ bb, (x != y) = bb := ⟨_, rfl⟩
  have HC := Lib.hid (show chgB h1 h2 x y = (h1 != h2 || bb) by unfold chgB; rw [← hbb]; by_cases e : x = y <;> simp [e])
  rw [HC.out]
  cases h1 <;> cases h2 <;> cases bb
  all_goals
    go_enter Try.func140, Try.ntmps140
    go_wp2_with fail
    refine (HA.out _ (HR.out.1.below (by repeat (first | exact Below.refl _ _ | assumption | (refine Below.drew ?_) | (refine below_drewN' ?_ _) | (refine below_alloc' ?_ _)))) (HR.out.2.2.below (by repeat (first | exact Below.refl _ _ | assumption | (refine Below.drew ?_) | (refine below_drewN' ?_ _) | (refine below_alloc' ?_ _))))).mono ?_
    rintro e w1 ⟨rfl, hb1⟩
    have HB1 := Lib.hid ((show Below w.heap.size w _ from below_alloc' (Below.refl _ _) Zcells).trans (hb1.mono (by simp)))
    have HZ := Lib.hid ((New5.mk w).below hb1)
    clear hb1
    go_wp2_with fail
    refine (HB.out _ (HR.out.2.1.below HB1.out) (HR.out.2.2.below HB1.out)).mono ?_
    rintro e w2 ⟨rfl, hb2⟩
    obtain ⟨⟨z0, z1, z2, z3, z4⟩, zf, zl⟩ := HZ.out.below hb2
    have HB2 := Lib.hid (HB1.out.trans (hb2.mono HB1.out.size))
    clear hb2
    go_wp2_with fail
    have hb2 := HB2.out
    refine bodyPost_ret (v := .tuple #[_, .bool _]) (by simp [results, Try.results140, go_sem, z0, z1, z2, z3, z4, zf, zl]) rfl ⟨rfl, (by (repeat (refine Below.setCell ?_ (by first | exact Nat.le_refl _ | (simp; done) | (simp; omega) | omega) _)); exact (by repeat (first | exact Below.refl _ _ | assumption | (refine Below.drew ?_) | (refine below_drewN' ?_ _) | (refine below_alloc' ?_ _))))⟩

/-- an empty literal, or a row of the call's own -/
def OwnL (Pt : Value → List Nat → Prop) (W w : World) (v : Value) (l : List Ch) : Prop := (l = [] ∧ ∃ g, v = .slice (some ⟨g, 0, none⟩) 0 0) ∨ OwnC Pt W w v l
theorem OwnL.below {Pt : Value → List Nat → Prop} {W w w' : World} {v : Value} {l : List Ch} (h : OwnL Pt W w v l) (hb : Below w.heap.size w w') : OwnL Pt W w' v l := h.imp id fun h => h.below hb
theorem OwnL.rd {Pt : Value → List Nat → Prop} {W w : World} {v : Value} {l : List Ch} (h : OwnL Pt W w v l) (hp : ∀ u p, Pt u p → RdU w u (pti p)) : RdC w v l ∧ CapOk v := by
  rcases h with ⟨rfl, g, rfl⟩ | h
  · exact ⟨RdC.nil _ _ _, _, 0, 0, rfl, Nat.le_refl _, Nat.zero_le _, fun h => absurd h (by omega)⟩
  · exact h.rd hp
theorem wpList_append_L {Pt : Value → List Nat → Prop} {w : World} {ops : Array Oper} {rest : List Oper} {o : Oper} {a : Act} {Q : Exit → Act → World → Prop} (hgd : o.guard = none) (s x : Operand)
    (ho : o.op = .call { callee := .builtin .append, args := #[s, x], argTypes := #[62, 62] }) (W : World) (l : List Ch) (c : Ch)
    (hp : ∀ u p, Pt u p → RdU w u (pti p)) (hown : OwnL Pt W w (a.eval s) l) (hx : SrcC Pt w (a.eval x) c) (hb : Below W.heap.size W w) (hlen : l.length ≤ 100000)
    (h : ∀ v' w', OwnL Pt W w' v' (l ++ [c]) → Below W.heap.size W w' → wpList Try.prog ops Q rest (a.put o.dst v') w') : wpList Try.prog ops Q (o :: rest) a w := by
  rcases hown with ⟨rfl, g, hg⟩ | hown
  · refine wpList_plain hgd fun K hK => ?_
    obtain ⟨b, cc, u, hx, k0, ku, k1, k2, k3, k4⟩ := hx
    have hn : CellsC Pt [c] [u, .bool c.had, .bool c.has, .int .u64 (c.old : Nat), .int .u64 (c.new : Nat)] := ⟨u, [], rfl, ku, rfl⟩
    obtain ⟨i, hi, hz0, hz1, hz2⟩ := info_parts changeInfo
    obtain ⟨v', w', hrun, r1, r2⟩ := run_append_arg_grows (P := Try.prog) w 62 o.type 114 i _ 5 48 Try.underlying62 hi hz0 hz1 hz2 rfl (by omega) ⟨g, 0, none⟩ 0 0 [] (by simp) (fun j u h => by simp at h) ⟨b, 0, none⟩ 1 cc [u, .bool c.had, .bool c.has, .int .u64 (c.old : Nat), .int .u64 (c.new : Nat)] rfl (fun j x hj => by
      match j with
      | 0 => simp at hj; subst hj; simpa [Addr.add] using k0
      | 1 => simp at hj; subst hj; simpa [Addr.add] using k1
      | 2 => simp at hj; subst hj; simpa [Addr.add] using k2
      | 3 => simp at hj; subst hj; simpa [Addr.add] using k3
      | 4 => simp at hj; subst hj; simpa [Addr.add] using k4
      | j + 5 => simp at hj) (by omega) (by simp [maxLen]) (by omega)
    have hbw := hb.grown r2 hb.size (fun k h => by cases h)
    have hrow : OwnL Pt W w' v' ([] ++ [c]) := by
      refine .inr ⟨_, ?_, hn⟩
      obtain ⟨b1, b2⟩ := r1
      refine ⟨by simp, ?_⟩
      rcases b2 with ⟨_, b2⟩ | ⟨g', cap, cur, q1, q2, q3, q4, q5, q6, q7⟩
      · omega
      · exact .inr ⟨g', cap, cur, by simpa using q1, Nat.le_trans hb.size q2, q3, by simpa using q4, q5, q6, by simpa using q7⟩
    unfold Oper.wp
    rw [← hg, ← hx] at hrun
    simp [execOp, ho, resolve, invoke, builtin, hrun, Result.andThen]
    exact hK _ _ (h v' w' hrow hbw)
  · exact wpList_append_C hgd s x ho W l c hp hown hx hb.size hlen fun v' w' r1 r2 => h v' w' (.inr r1) (hown.grown hb r2)

/-- a slice of changes is handed back -/
def RetC (W : World) (l : List Ch) (e : Ending) (w' : World) : Prop := ∃ v, e = .returned v ∧ (RdC w' v l ∧ CapOk v) ∧ Below W.heap.size W w'
theorem RetC.mk {W w' : World} {l : List Ch} {v : Value} (h : RdC w' v l ∧ CapOk v) (hb : Below W.heap.size W w') : RetC W l (.returned v) w' := ⟨v, rfl, h, hb⟩

theorem filterMap_take {α β : Type} (f : α → Option β) (l : List α) (j : Nat) (h : j < l.length) : (l.take (j + 1)).filterMap f = (l.take j).filterMap f ++ (match f l[j] with | none => [] | some y => [y]) := by
  rw [← List.take_append_getElem h, List.filterMap_append]
  congr 1

set_option maxRecDepth 8000 in
set_option maxHeartbeats 2000000 in
theorem rChanges_any (k : Nat) (a b : List En) (va vb : Value) (w : World) (ha : RdE w va a) (hb : RdE w vb b) (sa : EtS k a) (sb : EtS k b) (hn : a.length + b.length ≤ 1000) (hall : Et k (pointsL a b)) (hal : (pointsL a b).length ≤ 1000) :
    Calls Try.prog 89 #[va, vb] w fun e w' => RetC w (changesL a b) e w' := by
  have HP := Lib.hid (fun (w' : World) (h1 : RdE w' va a) (h2 : RdE w' vb b) => rPoints_any k a b va vb w' h1 h2 sa sb hn)
  have HC := Lib.hid (fun (p : List Nat) (vp : Value) (w' : World) (h1 : RdE w' va a) (h2 : RdE w' vb b) (h3 : RdU w' vp (pti p)) (h4 : PtS k p) => rChange_any k a b p va vb vp w' h1 h2 h3 sa sb h4)
  have HR := Lib.hid (And.intro ha hb)
  have HL := Lib.hid (And.intro hall hal)
  have HX := Lib.hid (show changesL a b = (pointsL a b).filterMap (fun e => changeL a b e.p) from rfl)
  generalize pointsL a b = all at *
  clear ha hb sa sb hn hall hal
  go_enter Try.func89, Try.ntmps89
  go_wp2_with fail
  refine (HP.out _ (HR.out.1.below (by repeat (first | exact Below.refl _ _ | assumption | (refine Below.drew ?_) | (refine below_drewN' ?_ _) | (refine below_alloc' ?_ _)))) (HR.out.2.below (by repeat (first | exact Below.refl _ _ | assumption | (refine Below.drew ?_) | (refine below_drewN' ?_ _) | (refine below_alloc' ?_ _))))).mono ?_
  rintro e wA ⟨v1, rfl, hv1, hbA⟩
  have HA := Lib.hid ((show Below w.heap.size w _ from below_alloc' (Below.refl _ _) (.cells #[] 114)).trans (hbA.mono (by simp)))
  have HRA := Lib.hid (And.intro (HR.out.1.below HA.out) (HR.out.2.below HA.out))
  clear hbA
  obtain ⟨A, c, rfl, hcap, ga0⟩ := hv1
  have HG := Lib.hid ga0
  clear ga0 hcap
  go_wp2_with fail
  go_loopw [5, 7] (fun vo i wr => ∃ (j : Nat), j ≤ all.length ∧ i = .int .i64 j ∧ OwnL (fun u p => RdU wA u (pti p)) wA wr vo ((all.take j).filterMap (fun e => changeL a b e.p)) ∧ Below wA.heap.size wA wr) (fun _ i _ => all.length - (intOf i).toNat)
  case atStart => exact ⟨0, Nat.zero_le _, rfl, .inl ⟨rfl, _, rfl⟩, (by repeat (first | exact Below.refl _ _ | assumption | (refine Below.drew ?_) | (refine below_drewN' ?_ _) | (refine below_alloc' ?_ _)))⟩
  case round =>
    obtain ⟨j, hj, rfl, hown, hb⟩ := hrel
    have HB := Lib.hid hb
    have HO := Lib.hid hown
    clear hb hown
    by_cases hlt : j < all.length
    · have h3 : (j : Int) < all.length := by omega
      have h5 : (0 : Int) ≤ (j : Int) := by omega
      obtain ⟨bk, ofs, rfl, ga⟩ := HG.out (by omega)
      obtain ⟨v0, k0, hv0, k1⟩ := (ga j hlt)
      have HV := Lib.hid hv0
      obtain ⟨A0, cc, rfl, hx0⟩ := RdU.point hv0
      replace k0 := Below.keeps HB.out _ _ k0
      have hblt : bk < wr.heap.size := World.block_lt_of_cell? wr _ k0
      have HW := Lib.hid (show wrap64 ((j : Int) + 1) = ((j + 1 : Nat) : Int) by have := HL.out.2; unfold wrap64; omega)
      have HM := Lib.hid (filterMap_take (fun e : En => changeL a b e.p) all j hlt)
      have HS := Lib.hid (show PtS k all[j].p from ⟨HL.out.1.len _ (List.getElem_mem hlt), HL.out.1.ok _ (List.getElem_mem hlt)⟩)
      have HC2 := Lib.hid (HC.out all[j].p (.slice A0 all[j].p.length cc) wr (HRA.out.1.below HB.out) (HRA.out.2.below HB.out) (HV.out.below HB.out) HS.out)
      have hlen : ((all.take j).filterMap (fun e : En => changeL a b e.p)).length ≤ 1000 := Nat.le_trans (List.length_filterMap_le _ _) (by rw [List.length_take]; have := HL.out.2; omega)
      have HLn := Lib.hid hlen
      clear ga k1 hv0 hx0 hlen
      unfold ChgP at HC2
      have HE := Lib.hid (show changeL a b all[j].p = if chgB (getE a all[j].p).isSome (getE b all[j].p).isSome ((getE a all[j].p).getD 0 : Nat) ((getE b all[j].p).getD 0 : Nat) then some ⟨all[j].p, (getE a all[j].p).isSome, (getE b all[j].p).isSome, (getE a all[j].p).getD 0, (getE b all[j].p).getD 0⟩ else none from rfl)
      generalize (getE a all[j].p).isSome = b1 at *
      generalize (getE b all[j].p).isSome = b2 at *
      generalize (getE a all[j].p).getD 0 = x1 at *
      generalize (getE b all[j].p).getD 0 = x2 at *
      cases hq : chgB b1 b2 x1 x2 with
      | true =>
        rw [hq] at HC2 HE
        have HM2 := Lib.hid (show (all.take (j + 1)).filterMap (fun e : En => changeL a b e.p) = (all.take j).filterMap (fun e : En => changeL a b e.p) ++ [⟨all[j].p, b1, b2, x1, x2⟩] by rw [HM.out, HE.out]; rfl)
        clear HM HE hq
        go_wp2_with fail
        refine HC2.out.mono ?_
        rintro e w4 ⟨rfl, hb4⟩
        have HB4 := Lib.hid (HB.out.trans (hb4.mono HB.out.size))
        have HO4 := Lib.hid (HO.out.below hb4)
        have hs4 : wA.heap.size ≤ w4.heap.size := HB4.out.size
        have hb4' := HB4.out
        clear hb4
        go_wp2_with ((at_builtin; refine wpList_append_L (Pt := fun u p => RdU wA u (pti p)) rfl (.tmp 32) (.tmp 34) rfl wA ((all.take j).filterMap (fun e : En => changeL a b e.p)) ⟨all[j].p, b1, b2, x1, x2⟩ ?_ ?_ ?_ ?_ ?_ ?_))
        · exact fun u p h => RdU.below h (by (repeat (refine Below.setCell ?_ (by first | exact Nat.le_refl _ | (simp; done) | (simp; omega) | omega) _)); exact (by repeat (first | exact Below.refl _ _ | assumption | (refine Below.drew ?_) | (refine below_drewN' ?_ _) | (refine below_alloc' ?_ _))))
        · exact HO4.out.below (by (repeat (refine Below.setCell ?_ (by first | exact Nat.le_refl _ | (simp; done) | (simp; omega) | omega) _)); exact (by repeat (first | exact Below.refl _ _ | assumption | (refine Below.drew ?_) | (refine below_drewN' ?_ _) | (refine below_alloc' ?_ _))))
        · exact ⟨_, _, _, rfl, by simp [go_sem], HV.out, by simp [go_sem], by simp [go_sem], by simp [go_sem], by simp [go_sem]⟩
        · exact (by (repeat (refine Below.setCell ?_ (by first | exact Nat.le_refl _ | (simp; done) | (simp; omega) | omega) _)); exact (by repeat (first | exact Below.refl _ _ | assumption | (refine Below.drew ?_) | (refine below_drewN' ?_ _) | (refine below_alloc' ?_ _))))
        · have := HLn.out; omega
        intro v5 w5 hown5 hb5
        rw [← HM2.out] at hown5
        have HO5 := Lib.hid hown5
        have HB5 := Lib.hid hb5
        clear hown5 hb5
        go_wp2_with fail
        go_roundw
        case rel => exact ⟨j + 1, by omega, by rw [HW.out], HO5.out, HB5.out⟩
        case measure => rw [intOf_of' HW.out, intOf_of' rfl]; omega
      | false =>
        rw [hq] at HC2 HE
        have HM2 := Lib.hid (show (all.take (j + 1)).filterMap (fun e : En => changeL a b e.p) = (all.take j).filterMap (fun e : En => changeL a b e.p) by rw [HM.out, HE.out]; simp)
        clear HM HE hq
        go_wp2_with fail
        refine HC2.out.mono ?_
        rintro e w4 ⟨rfl, hb4⟩
        have HB4 := Lib.hid (HB.out.trans (hb4.mono HB.out.size))
        have HO4 := Lib.hid (HO.out.below hb4)
        have hs4 : wA.heap.size ≤ w4.heap.size := HB4.out.size
        have hb4' := HB4.out
        clear hb4
        go_wp2_with fail
        go_roundw
        case rel => exact ⟨j + 1, by omega, by rw [HW.out], by rw [HM2.out]; exact HO4.out.below (by (repeat (refine Below.setCell ?_ (by first | exact Nat.le_refl _ | (simp; done) | (simp; omega) | omega) _)); exact (by repeat (first | exact Below.refl _ _ | assumption | (refine Below.drew ?_) | (refine below_drewN' ?_ _) | (refine below_alloc' ?_ _)))), (by (repeat (refine Below.setCell ?_ (by first | exact Nat.le_refl _ | (simp; done) | (simp; omega) | omega) _)); exact (by repeat (first | exact Below.refl _ _ | assumption | (refine Below.drew ?_) | (refine below_drewN' ?_ _) | (refine below_alloc' ?_ _))))⟩
        case measure => rw [intOf_of' HW.out, intOf_of' rfl]; omega
    · have HO2 := Lib.hid (show OwnL (fun u p => RdU wA u (pti p)) wA wr u5 (changesL a b) by rw [HX.out]; have := HO.out; rwa [List.take_of_length_le (by omega)] at this)
      go_wp2_with fail
      go_ret
      exact RetC.mk (HO2.out.rd fun u p h => h.below HB.out) (HA.out.trans (HB.out.mono HA.out.size))
end Go.Proofs.Ytlmgabhdeeehmaa
