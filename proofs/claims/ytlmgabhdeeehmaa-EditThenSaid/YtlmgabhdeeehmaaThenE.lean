/-
  The walk of pantileref13.Then.
-/
import Derived.Test.YtlmgabhdeeehmaaChgE
namespace Go.Proofs.Ytlmgabhdeeehmaa
open Go.RowKit
set_option linter.unusedVariables false
set_option linter.unusedSimpArgs false

theorem doL_length (e : List En) (l : List Ch) : (doL e l).length ≤ e.length + l.length := by
  induction l generalizing e with
  | nil => exact Nat.le_refl _
  | cons c l ih =>
    rw [doL_cons]
    refine Nat.le_trans (ih _) ?_
    rw [List.length_cons]
    split
    · have : (insE c.p c.new e).length ≤ e.length + 1 := Od.ins_length
      omega
    · have : (delE c.p e).length ≤ e.length := Od.del_length
      omega
theorem wasL_cons (a : List Ch) (e : List En) (c : Ch) (l : List Ch) : wasL a e (c :: l) = wasL a (if (atL a c.p).isNone && c.had then insE c.p c.old e else e) l := rfl
theorem wasL_length (a : List Ch) (e : List En) (l : List Ch) : (wasL a e l).length ≤ e.length + l.length := by
  induction l generalizing e with
  | nil => exact Nat.le_refl _
  | cons c l ih =>
    rw [wasL_cons]
    refine Nat.le_trans (ih _) ?_
    rw [List.length_cons]
    split
    · have : (insE c.p c.old e).length ≤ e.length + 1 := Od.ins_length
      omega
    · omega
theorem pointsL_length (a l : List En) : (pointsL a l).length ≤ a.length + l.length := by
  induction l generalizing a with
  | nil => exact Nat.le_refl _
  | cons c l ih =>
    rw [pointsL_cons]
    refine Nat.le_trans (ih _) ?_
    rw [List.length_cons]
    have : (insE c.p 0 a).length ≤ a.length + 1 := Od.ins_length
    omega
theorem beforeL_length (a : List Ch) : (beforeL a).length ≤ a.length := List.length_filterMap_le _ _
/-- what Then hands back -/
def ThenP (W : World) (o : Option (List Ch)) (e : Ending) (w' : World) : Prop :=
  (match o with
  | none => e = .returned (.tuple #[.slice none 0 0, .bool false])
  | some l => ∃ v, e = .returned (.tuple #[v, .bool true]) ∧ RdC w' v l ∧ CapOk v) ∧ Below W.heap.size W w'
theorem any_take_succ {α : Type} (f : α → Bool) (l : List α) (j : Nat) (h : j < l.length) : (l.take (j + 1)).any f = ((l.take j).any f || f l[j]) := by
  rw [← List.take_append_getElem h, List.any_append]; simp
theorem any_at {α : Type} (f : α → Bool) (l : List α) (j : Nat) (h : j < l.length) (hf : f l[j] = true) : l.any f = true := List.any_eq_true.2 ⟨l[j], List.getElem_mem h, hf⟩

set_option maxRecDepth 100000 in
set_option maxHeartbeats 4000000 in
theorem rThen_any (k : Nat) (a l : List Ch) (va vb : Value) (w : World) (ha : RdC w va a) (hb : RdC w vb l) (ra : Rt k a) (rb : Rt k l) (hk : k ≤ 16) (na : a.length ≤ 100) (nb : l.length ≤ 100) :
    Calls Try.prog 42 #[va, vb] w fun e w' => ThenP w (rthenL a l) e w' := by
  have HAt := Lib.hid (fun (p : List Nat) (vp : Value) (w' : World) (h1 : RdC w' va a) (h2 : RdU w' vp (pti p)) => rAt_any a p va vp w' h1 h2 (by omega) (fun c hc => by rw [ra.len c hc]; omega))
  have HBe := Lib.hid (rBefore_any a va w ha (by omega))
  have pta : PtC k a := fun c hc => ⟨ra.len c hc, ra.ok c hc⟩
  have ptb : PtC k l := fun c hc => ⟨rb.len c hc, rb.ok c hc⟩
  obtain ⟨be1, be2⟩ := beforeL_spec ra
  obtain ⟨wa1, wa2⟩ := wasL_spec ra rb _ be1
  obtain ⟨do1, _⟩ := doL_spec ra _ wa1
  obtain ⟨do2, _⟩ := doL_spec rb _ do1
  obtain ⟨po1, _⟩ := pointsL_spec do2 _ wa1
  have L1 := beforeL_length a
  have L2 := wasL_length a (beforeL a) l
  have L3 := doL_length (wasL a (beforeL a) l) a
  have L4 := doL_length (doL (wasL a (beforeL a) l) a) l
  have L5 := pointsL_length (wasL a (beforeL a) l) (doL (doL (wasL a (beforeL a) l) a) l)
  have sW : EtS k (wasL a (beforeL a) l) := ⟨wa1, by omega, by omega⟩
  have sD1 : EtS k (doL (wasL a (beforeL a) l) a) := ⟨do1, by omega, by omega⟩
  have sD2 : EtS k (doL (doL (wasL a (beforeL a) l) a) l) := ⟨do2, by omega, by omega⟩
  have H1 := Lib.hid (fun (v : Value) (w' : World) (h1 : RdE w' v (wasL a (beforeL a) l)) (h2 : RdC w' va a) => rDo_any k _ a v va w' h1 h2 sW pta (by omega))
  have H2 := Lib.hid (fun (v : Value) (w' : World) (h1 : RdE w' v (doL (wasL a (beforeL a) l) a)) (h2 : RdC w' vb l) => rDo_any k _ l v vb w' h1 h2 sD1 ptb (by omega))
  have H3 := Lib.hid (fun (v u : Value) (w' : World) (h1 : RdE w' v (wasL a (beforeL a) l)) (h2 : RdE w' u (doL (doL (wasL a (beforeL a) l) a) l)) => rChanges_any k _ _ v u w' h1 h2 sW sD2 (by omega) po1 (by omega))
  have HX := Lib.hid (show rthenL a l = if l.any (unfitC a) then none else some (changesL (wasL a (beforeL a) l) (doL (doL (wasL a (beforeL a) l) a) l)) from rfl)
  have HB0 := Lib.hid (show EtS k (beforeL a) from ⟨be1, by omega, by omega⟩)
  have HN := Lib.hid (And.intro na (And.intro nb (And.intro L1 ptb)))
  have HR := Lib.hid (And.intro ha hb)
  clear ra rb hk na nb pta ptb be1 be2 wa1 wa2 do1 do2 po1 L1 L2 L3 L4 L5 sW sD1 sD2 ha
  obtain ⟨A, c, rfl, ga0⟩ := hb
  have HG := Lib.hid ga0
  clear ga0
  go_enter Try.func42, Try.ntmps42
  go_wp2_with fail
  refine HBe.out.mono ?_
  rintro e wB ⟨v1, rfl, hv1, hbB⟩
  have HBB := Lib.hid (And.intro hv1 hbB)
  clear hv1 hbB
  go_wp2_with fail
  go_loopw [6, 7] (fun vo i wr => ∃ (j : Nat) (cur : List En), j ≤ l.length ∧ i = .int .i64 j ∧ RdE wr vo cur ∧ EtS k cur ∧ cur.length ≤ a.length + j ∧ wasL a cur (l.drop j) = wasL a (beforeL a) l ∧ (l.take j).any (unfitC a) = false ∧ Below w.heap.size w wr) (fun _ i _ => l.length - (intOf i).toNat)
  case atStart => exact ⟨0, beforeL a, Nat.zero_le _, rfl, HBB.out.1, HB0.out, HN.out.2.2.1, rfl, rfl, HBB.out.2⟩
  case round =>
    obtain ⟨j, cur, hj, rfl, hcur, hes, hcl, hwas, hany, hb⟩ := hrel
    have HB := Lib.hid hb
    have HC := Lib.hid (And.intro hcur (And.intro hes hcl))
    clear hcur hes hcl hb
    by_cases hlt : j < l.length
    · have h3 : (j : Int) < l.length := by omega
      have h5 : (0 : Int) ≤ (j : Int) := by omega
      obtain ⟨bk, ofs, rfl, ga⟩ := HG.out (by omega)
      have hat := ga j hlt
      obtain ⟨v0, k0, hv0, k1, k2, k3, k4⟩ := hat.keep (Below.keeps HB.out)
      have hblt : bk < wr.heap.size := World.block_lt_of_cell? wr _ k0
      have HV := Lib.hid hv0
      obtain ⟨A0, cc, rfl, hx0⟩ := RdU.point hv0
      have HW := Lib.hid (show wrap64 ((j : Int) + 1) = ((j + 1 : Nat) : Int) by have := HN.out.2.1; unfold wrap64; omega)
      have HT2 := Lib.hid (HAt.out l[j].p _ wr (HR.out.1.below HB.out) HV.out)
      have HS := Lib.hid (HN.out.2.2.2 l[j] (List.getElem_mem hlt))
      rw [List.drop_eq_getElem_cons hlt, wasL_cons] at hwas
      have hsucc := any_take_succ (unfitC a) l j hlt
      rw [hany, Bool.false_or] at hsucc
      have hun := any_at (unfitC a) l j hlt
      have huf : unfitC a l[j] = match atL a l[j].p with | some x => x.has != l[j].had || decide ((x.new : Int) ≠ l[j].old) | none => false := rfl
      clear ga hat hx0 hv0 k2 k4 hany
      cases ho : atL a l[j].p with
      | none =>
        rw [ho] at HT2 hwas huf
        simp only [Option.isNone_none, Bool.true_and] at hwas huf
        rw [huf] at hsucc
        have HA := Lib.hid hsucc
        clear hsucc ho huf hun
        cases hh : l[j].had with
        | false =>
          rw [hh] at k1
          rw [hh, if_neg (by simp)] at hwas
          have HO := Lib.hid hwas
          clear hwas hh k3
          go_wp2_with fail
          refine HT2.out.mono ?_
          rintro e w4 ⟨rfl, hb4⟩
          have HB4 := Lib.hid (HB.out.trans (hb4.mono HB.out.size))
          have HC4 := Lib.hid (HC.out.1.below hb4)
          replace k0 := Below.keeps hb4 _ _ k0
          replace k1 := Below.keeps hb4 _ _ k1
          replace hblt : bk < w4.heap.size := World.block_lt_of_cell? w4 _ k0
          have hblt1 : bk < w4.heap.size + 1 := by omega
          clear hb4
          unfold Zc
          go_wp2_with fail
          go_quiet (fail)
          go_wp2_with fail
          have hb4 := HB4.out
          have hs4 : w.heap.size ≤ w4.heap.size := HB4.out.size
          go_roundw
          case rel => exact ⟨j + 1, cur, by omega, by rw [HW.out], HC4.out.below (by (repeat (refine Below.setCell ?_ (by first | exact Nat.le_refl _ | (simp; done) | (simp; omega) | omega) _)); exact (by repeat (first | exact Below.refl _ _ | assumption | (refine Below.drew ?_) | (refine below_drewN' ?_ _) | (refine below_alloc' ?_ _)))), HC.out.2.1, by have := HC.out.2.2; omega, HO.out, HA.out, (by (repeat (refine Below.setCell ?_ (by first | exact Nat.le_refl _ | (simp; done) | (simp; omega) | omega) _)); exact (by repeat (first | exact Below.refl _ _ | assumption | (refine Below.drew ?_) | (refine below_drewN' ?_ _) | (refine below_alloc' ?_ _))))⟩
          case measure => rw [intOf_of' HW.out, intOf_of' rfl]; omega
        | true =>
          rw [hh] at k1
          rw [hh, if_pos rfl] at hwas
          have HO := Lib.hid hwas
          clear hwas hh
          go_wp2_with fail
          refine HT2.out.mono ?_
          rintro e w4 ⟨rfl, hb4⟩
          have HB4 := Lib.hid (HB.out.trans (hb4.mono HB.out.size))
          have HC4 := Lib.hid (HC.out.1.below hb4)
          have HV4 := Lib.hid (HV.out.below hb4)
          replace k0 := Below.keeps hb4 _ _ k0
          replace k1 := Below.keeps hb4 _ _ k1
          replace k3 := Below.keeps hb4 _ _ k3
          replace hblt : bk < w4.heap.size := World.block_lt_of_cell? w4 _ k0
          have hblt1 : bk < w4.heap.size + 1 := by omega
          clear hb4
          unfold Zc
          go_wp2_with fail
          go_quiet (fail)
          go_wp2_with fail
          have hs4 : w.heap.size ≤ w4.heap.size := HB4.out.size
          have hb4a : bk < w4.heap.size := hblt
          have hb4b : ¬ bk = w4.heap.size := by omega
          refine wp_region_vals 11 [fun v _ => v = u6,
            fun v _ => v = .slice (some ⟨bk, ofs, none⟩) l.length c,
            fun v _ => v = .int .i64 (j : Nat),
            fun v _ => v = .pointer (some ⟨bk, ofs + j * 5, none⟩),
            fun v _ => v = .pointer (some ⟨bk, ofs + j * 5, none⟩),
            fun v _ => v = .slice A0 l[j].p.length cc,
            fun v _ => v = .slice (some ⟨bk, ofs, none⟩) l.length c,
            fun v _ => v = .int .i64 (j : Nat),
            fun v _ => v = .pointer (some ⟨bk, ofs + j * 5, none⟩),
            fun v _ => v = .pointer (some ⟨bk, ofs + j * 5 + 3, none⟩),
            fun v _ => v = .int .u64 (l[j].old : Nat)]
            (by kernel_rfl) (by kernel_rfl) (by kernel_rfl) (by kernel_rfl) ?_ ?_ ?_
          · intro V hV v w1 w2 h hb
            simp only [List.mem_cons, List.not_mem_nil, or_false] at hV
            rcases hV with rfl | rfl | rfl | rfl | rfl | rfl | rfl | rfl | rfl | rfl | rfl
            all_goals first | exact h | (exact h)
          · intro i o hi ho
            match i, hi with
            | 0, _ =>
            obtain rfl := Option.some.inj ho
            intro a1 w1 K hk hK
            have e6 : a1.tmps.getD 6 undef = u6 := hk.same 6 (by simp)
            simp [Region.wanted, Oper.wp, Act.eval, go_sem, e6, h3, h5, k0, k3, hb4a, hb4b]
            exact hK _ _ (Below.refl _ _) rfl
            | 1, _ =>
            obtain rfl := Option.some.inj ho
            intro a1 w1 K hk hK
            have e1 : a1.tmps.getD 1 undef = .slice (some ⟨bk, ofs, none⟩) l.length c := hk.same 1 (by simp)
            simp [Region.wanted, Oper.wp, Act.eval, go_sem, e1, h3, h5, k0, k3, hb4a, hb4b]
            exact hK _ _ (Below.refl _ _) rfl
            | 2, _ =>
            obtain rfl := Option.some.inj ho
            intro a1 w1 K hk hK
            have e7 : a1.tmps.getD 7 undef = .int .i64 (j : Nat) := hk.same 7 (by simp)
            simp [Region.wanted, Oper.wp, Act.eval, go_sem, e7, h3, h5, k0, k3, hb4a, hb4b]
            exact hK _ _ (Below.refl _ _) rfl
            | 3, _ =>
            obtain rfl := Option.some.inj ho
            intro a1 w1 K hk hK
            have d59 : a1.tmps.getD 59 undef = .slice (some ⟨bk, ofs, none⟩) l.length c := hk.deps ⟨1, .data⟩ (by simp) rfl _ _ rfl rfl
            have d60 : a1.tmps.getD 60 undef = .int .i64 (j : Nat) := hk.deps ⟨2, .data⟩ (by simp) rfl _ _ rfl rfl
            simp [Region.wanted, Oper.wp, Act.eval, go_sem, d59, d60, h3, h5, k0, k3, hb4a, hb4b]
            exact hK _ _ (Below.refl _ _) rfl
            | 4, _ =>
            obtain rfl := Option.some.inj ho
            intro a1 w1 K hk hK
            have d61 : a1.tmps.getD 61 undef = .pointer (some ⟨bk, ofs + j * 5, none⟩) := hk.deps ⟨3, .data⟩ (by simp) rfl _ _ rfl rfl
            simp [Region.wanted, Oper.wp, Act.eval, go_sem, d61, h3, h5, k0, k3, hb4a, hb4b]
            exact hK _ _ (Below.refl _ _) rfl
            | 5, _ =>
            obtain rfl := Option.some.inj ho
            intro a1 w1 K hk hK
            have d62 : a1.tmps.getD 62 undef = .pointer (some ⟨bk, ofs + j * 5, none⟩) := hk.deps ⟨4, .data⟩ (by simp) rfl _ _ rfl rfl
            have c0 : w1.cell? ⟨bk, ofs + j * 5, none⟩ = some (.slice A0 l[j].p.length cc) := Below.keeps hk.ext _ _ (by simp [go_sem, h3, h5, k0, k3, hb4a, hb4b])
            have c1 : w1.cell? ⟨bk, ofs + j * 5 + 3, none⟩ = some (.int .u64 (l[j].old : Nat)) := Below.keeps hk.ext _ _ (by simp [go_sem, h3, h5, k0, k3, hb4a, hb4b])
            simp [Region.wanted, Oper.wp, Act.eval, go_sem, d62, c0, c1, h3, h5, k0, k3, hb4a, hb4b]
            exact hK _ _ (Below.refl _ _) rfl
            | 6, _ =>
            obtain rfl := Option.some.inj ho
            intro a1 w1 K hk hK
            have e1 : a1.tmps.getD 1 undef = .slice (some ⟨bk, ofs, none⟩) l.length c := hk.same 1 (by simp)
            simp [Region.wanted, Oper.wp, Act.eval, go_sem, e1, h3, h5, k0, k3, hb4a, hb4b]
            exact hK _ _ (Below.refl _ _) rfl
            | 7, _ =>
            obtain rfl := Option.some.inj ho
            intro a1 w1 K hk hK
            have e7 : a1.tmps.getD 7 undef = .int .i64 (j : Nat) := hk.same 7 (by simp)
            simp [Region.wanted, Oper.wp, Act.eval, go_sem, e7, h3, h5, k0, k3, hb4a, hb4b]
            exact hK _ _ (Below.refl _ _) rfl
            | 8, _ =>
            obtain rfl := Option.some.inj ho
            intro a1 w1 K hk hK
            have d64 : a1.tmps.getD 64 undef = .slice (some ⟨bk, ofs, none⟩) l.length c := hk.deps ⟨6, .data⟩ (by simp) rfl _ _ rfl rfl
            have d65 : a1.tmps.getD 65 undef = .int .i64 (j : Nat) := hk.deps ⟨7, .data⟩ (by simp) rfl _ _ rfl rfl
            simp [Region.wanted, Oper.wp, Act.eval, go_sem, d64, d65, h3, h5, k0, k3, hb4a, hb4b]
            exact hK _ _ (Below.refl _ _) rfl
            | 9, _ =>
            obtain rfl := Option.some.inj ho
            intro a1 w1 K hk hK
            have d66 : a1.tmps.getD 66 undef = .pointer (some ⟨bk, ofs + j * 5, none⟩) := hk.deps ⟨8, .data⟩ (by simp) rfl _ _ rfl rfl
            simp [Region.wanted, Oper.wp, Act.eval, go_sem, d66, h3, h5, k0, k3, hb4a, hb4b]
            exact hK _ _ (Below.refl _ _) rfl
            | 10, _ =>
            obtain rfl := Option.some.inj ho
            intro a1 w1 K hk hK
            have d67 : a1.tmps.getD 67 undef = .pointer (some ⟨bk, ofs + j * 5 + 3, none⟩) := hk.deps ⟨9, .data⟩ (by simp) rfl _ _ rfl rfl
            have c0 : w1.cell? ⟨bk, ofs + j * 5, none⟩ = some (.slice A0 l[j].p.length cc) := Below.keeps hk.ext _ _ (by simp [go_sem, h3, h5, k0, k3, hb4a, hb4b])
            have c1 : w1.cell? ⟨bk, ofs + j * 5 + 3, none⟩ = some (.int .u64 (l[j].old : Nat)) := Below.keeps hk.ext _ _ (by simp [go_sem, h3, h5, k0, k3, hb4a, hb4b])
            simp [Region.wanted, Oper.wp, Act.eval, go_sem, d67, c0, c1, h3, h5, k0, k3, hb4a, hb4b]
            exact hK _ _ (Below.refl _ _) rfl
          · intro vs w3 hl hb3 hv
            match vs, hl with
            | [v0, v1, v2, v3, v4, v5, v6, v7, v8, v9, v10], _ =>
            obtain rfl : v0 = u6 := hv 0 (by omega)
            obtain rfl : v1 = .slice (some ⟨bk, ofs, none⟩) l.length c := hv 1 (by omega)
            obtain rfl : v2 = .int .i64 (j : Nat) := hv 2 (by omega)
            obtain rfl : v3 = .pointer (some ⟨bk, ofs + j * 5, none⟩) := hv 3 (by omega)
            obtain rfl : v4 = .pointer (some ⟨bk, ofs + j * 5, none⟩) := hv 4 (by omega)
            obtain rfl : v5 = .slice A0 l[j].p.length cc := hv 5 (by omega)
            obtain rfl : v6 = .slice (some ⟨bk, ofs, none⟩) l.length c := hv 6 (by omega)
            obtain rfl : v7 = .int .i64 (j : Nat) := hv 7 (by omega)
            obtain rfl : v8 = .pointer (some ⟨bk, ofs + j * 5, none⟩) := hv 8 (by omega)
            obtain rfl : v9 = .pointer (some ⟨bk, ofs + j * 5 + 3, none⟩) := hv 9 (by omega)
            obtain rfl : v10 = .int .u64 (l[j].old : Nat) := hv 10 (by omega)
            clear hv
            simp only [putAll, List.take_succ_cons, List.take_zero, List.drop_succ_cons, List.drop_zero, Act.put, List.setIfInBounds_toArray, List.set_cons_succ, List.set_cons_zero]
            have HX3 := Lib.hid ((show Below w4.heap.size w4 _ from (by (repeat (refine Below.setCell ?_ (by first | exact Nat.le_refl _ | (simp; done) | (simp; omega) | omega) _)); exact (by repeat (first | exact Below.refl _ _ | assumption | (refine Below.drew ?_) | (refine below_drewN' ?_ _) | (refine below_alloc' ?_ _))))).trans (hb3.mono (by simp)))
            have HB3 := Lib.hid (HB4.out.trans (HX3.out.mono HB4.out.size))
            have HC3 := Lib.hid (HC4.out.below HX3.out)
            have HP3 := Lib.hid (HV4.out.below HX3.out)
            clear hb3 k0 k1 k3
            go_wp2_with fail
            refine (rPut_any k cur l[j].p l[j].old _ _ _ HC3.out HP3.out HC.out.2.1 HS.out).mono ?_
            rintro e w5 ⟨v5, rfl, hv5, hb5⟩
            have HV5 := Lib.hid hv5
            have HB5 := Lib.hid (HB3.out.trans (hb5.mono HB3.out.size))
            clear hv5 hb5
            go_wp2_with fail
            go_roundw
            case rel => exact ⟨j + 1, insE l[j].p l[j].old cur, by omega, by rw [HW.out], HV5.out, HC.out.2.1.ins _ HS.out (by have := HC.out.2.2; have := HN.out.1; have := HN.out.2.1; omega), Nat.le_trans Od.ins_length (by have := HC.out.2.2; omega), HO.out, HA.out, HB5.out⟩
            case measure => rw [intOf_of' HW.out, intOf_of' rfl]; omega
      | some x =>
        rw [ho] at HT2 hwas huf
        simp only [Option.isNone_some, Bool.false_and] at hwas huf
        rw [if_neg (by simp)] at hwas
        have HO := Lib.hid hwas
        obtain ⟨xp, xhad, xhas, xold, xnew⟩ := x
        simp only at huf
        obtain ⟨hd, hhd⟩ : ∃ b, l[j].had = b := ⟨_, rfl⟩
        obtain ⟨b4, e4⟩ : ∃ b, ((xnew : Int) != (l[j].old : Int)) = b := ⟨_, rfl⟩
        have he4 : decide ((xnew : Int) ≠ (l[j].old : Int)) = b4 := by rw [← e4]; by_cases e : (xnew : Int) = l[j].old <;> simp [e]
        rw [hhd] at k1 huf
        rw [he4] at huf
        generalize l[j].old = lold at *
        rw [huf] at hun hsucc
        have HA := Lib.hid (And.intro hun hsucc)
        clear hwas ho huf hun hsucc hhd he4
        have bad : (xhas != hd || b4) = true → rthenL a l = none := fun h => by rw [HX.out, HA.out.1 h]; rfl
        have HBad := Lib.hid bad
        clear bad
        cases xhas <;> cases hd <;> cases b4
        all_goals
          go_wp2_with fail
          refine HT2.out.mono ?_
          rintro e w4 ⟨⟨A5, n5, c5, rfl⟩, hb4⟩
          have HB4 := Lib.hid (HB.out.trans (hb4.mono HB.out.size))
          have HC4 := Lib.hid (HC.out.1.below hb4)
          replace k0 := Below.keeps hb4 _ _ k0
          replace k1 := Below.keeps hb4 _ _ k1
          replace k3 := Below.keeps hb4 _ _ k3
          replace hblt : bk < w4.heap.size := World.block_lt_of_cell? w4 _ k0
          have hblt1 : bk < w4.heap.size + 1 := by omega
          clear hb4
          unfold AgC
          go_wp2_with fail
          go_quiet (fail)
          go_wp2_with fail
          have hb4 := HB4.out
          have hs4 : w.heap.size ≤ w4.heap.size := HB4.out.size
          first
            | (go_roundw
               case rel => exact ⟨j + 1, cur, by omega, by rw [HW.out], HC4.out.below (by (repeat (refine Below.setCell ?_ (by first | exact Nat.le_refl _ | (simp; done) | (simp; omega) | omega) _)); exact (by repeat (first | exact Below.refl _ _ | assumption | (refine Below.drew ?_) | (refine below_drewN' ?_ _) | (refine below_alloc' ?_ _)))), HC.out.2.1, by have := HC.out.2.2; omega, HO.out, HA.out.2, (by (repeat (refine Below.setCell ?_ (by first | exact Nat.le_refl _ | (simp; done) | (simp; omega) | omega) _)); exact (by repeat (first | exact Below.refl _ _ | assumption | (refine Below.drew ?_) | (refine below_drewN' ?_ _) | (refine below_alloc' ?_ _))))⟩
               case measure => rw [intOf_of' HW.out, intOf_of' rfl]; omega)
            | (go_ret2
               rw [HBad.out rfl]
               exact ⟨rfl, (by (repeat (refine Below.setCell ?_ (by first | exact Nat.le_refl _ | (simp; done) | (simp; omega) | omega) _)); exact (by repeat (first | exact Below.refl _ _ | assumption | (refine Below.drew ?_) | (refine below_drewN' ?_ _) | (refine below_alloc' ?_ _))))⟩)
    · have HE := Lib.hid (show cur = wasL a (beforeL a) l by rw [List.drop_of_length_le (by omega)] at hwas; exact hwas)
      have HF := Lib.hid (show rthenL a l = some (changesL (wasL a (beforeL a) l) (doL (doL (wasL a (beforeL a) l) a) l)) by
        rw [List.take_of_length_le (by omega)] at hany
        rw [HX.out, hany]; rfl)
      have HC2 := HC.out.1
      rw [HE.out] at HC2
      have HC3 := Lib.hid HC2
      clear hwas hany HC2
      go_wp2_with fail
      refine (H1.out _ _ HC3.out (HR.out.1.below HB.out)).mono ?_
      rintro e w4 ⟨v4, rfl, hv4, hb4⟩
      have HB4 := Lib.hid (HB.out.trans (hb4.mono HB.out.size))
      have HC4 := Lib.hid (HC3.out.below hb4)
      have HV4 := Lib.hid hv4
      clear hb4 hv4
      go_wp2_with fail
      refine (H2.out _ _ HV4.out (HR.out.2.below HB4.out)).mono ?_
      rintro e w5 ⟨v5, rfl, hv5, hb5⟩
      have HB5 := Lib.hid (HB4.out.trans (hb5.mono HB4.out.size))
      have HC5 := Lib.hid (HC4.out.below hb5)
      have HV5 := Lib.hid hv5
      clear hb5 hv5
      go_wp2_with fail
      refine (H3.out _ _ _ HC5.out HV5.out).mono ?_
      rintro e w6 ⟨v6, rfl, hv6, hb6⟩
      have HB6 := Lib.hid (HB5.out.trans (hb6.mono HB5.out.size))
      have HV6 := Lib.hid hv6
      clear hb6 hv6
      go_wp2_with fail
      go_ret2
      rw [HF.out]
      exact ⟨⟨v6, rfl, HV6.out.1, HV6.out.2⟩, HB6.out⟩
end Go.Proofs.Ytlmgabhdeeehmaa
