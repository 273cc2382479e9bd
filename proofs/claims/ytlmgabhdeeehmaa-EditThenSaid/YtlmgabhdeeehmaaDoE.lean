/-
  The walks of pantileref13.Before, Do and of pantileref12.Points.
-/
import Derived.Test.YtlmgabhdeeehmaaRef06b
namespace Go.Proofs.Ytlmgabhdeeehmaa
open Go.RowKit
set_option linter.unusedVariables false
set_option linter.unusedSimpArgs false

theorem doL_cons (e : List En) (c : Ch) (l : List Ch) : doL e (c :: l) = doL (if c.has then insE c.p c.new e else delE c.p e) l := rfl
/-- points of k coordinates -/
def PtC (k : Nat) (l : List Ch) : Prop := ∀ c ∈ l, PtS k c.p
theorem EtS.ins {k : Nat} {l : List En} (h : EtS k l) {p : List Nat} (x : Nat) (hp : PtS k p) (hl : l.length < 1000) : EtS k (insE p x l) :=
  ⟨h.et.ins x hp.len hp.ok, h.k40, Nat.le_trans Od.ins_length (by omega)⟩
theorem RetE.below {W W' w' : World} {l : List En} {e : Ending} (hb : Below W.heap.size W W') (h : RetE W' l e w') : RetE W l e w' :=
  let ⟨v, e1, h1, h2⟩ := h; ⟨v, e1, h1, hb.trans (h2.mono hb.size)⟩

set_option maxRecDepth 8000 in
set_option maxHeartbeats 2000000 in
theorem rDo_any (k : Nat) (es0 : List En) (l : List Ch) (v vl : Value) (w : World) (hv : RdE w v es0) (hl0 : RdC w vl l) (he : EtS k es0) (hs : PtC k l) (hn : es0.length + l.length ≤ 1000) :
    Calls Try.prog 90 #[v, vl] w fun e w' => RetE w (doL es0 l) e w' := by
  obtain ⟨A, c, rfl, ga0⟩ := hl0
  have HD := Lib.hid (And.intro hn hs)
  have HG := Lib.hid ga0
  have HV := Lib.hid (And.intro hv he)
  clear hn hs ga0 hv he
  go_enter Try.func90, Try.ntmps90
  go_wp2_with fail
  go_loopw [0, 5] (fun vin i wr => ∃ (j : Nat) (cur : List En), j ≤ l.length ∧ i = .int .i64 j ∧ RdE wr vin cur ∧ EtS k cur ∧ cur.length ≤ es0.length + j ∧ doL cur (l.drop j) = doL es0 l ∧ Below w.heap.size w wr) (fun _ i _ => l.length - (intOf i).toNat)
  case atStart => exact ⟨0, es0, Nat.zero_le _, rfl, HV.out.1, HV.out.2, Nat.le_refl _, rfl, (by repeat (first | exact Below.refl _ _ | assumption | (refine Below.drew ?_) | (refine below_drewN' ?_ _) | (refine below_alloc' ?_ _)))⟩
  case round =>
    obtain ⟨j, cur, hj, rfl, hcur, hes, hcl, hdo, hb⟩ := hrel
    have HB := Lib.hid hb
    have HC := Lib.hid (And.intro hcur (And.intro hes hcl))
    clear hcur hes hcl hb
    by_cases hlt : j < l.length
    · have h3 : (j : Int) < l.length := by omega
      have h5 : (0 : Int) ≤ (j : Int) := by omega
      obtain ⟨bk, ofs, rfl, ga⟩ := HG.out (by omega)
      obtain ⟨v0, k0, hv0, k1, k2, k3, k4⟩ := (ga j hlt).keep (Below.keeps HB.out)
      have hblt : bk < wr.heap.size := World.block_lt_of_cell? wr _ k0
      have HP := Lib.hid hv0
      obtain ⟨A0, cc, rfl, hx0⟩ := RdU.point hv0
      rw [List.drop_eq_getElem_cons hlt] at hdo
      rw [doL_cons] at hdo
      have HS := Lib.hid (HD.out.2 l[j] (List.getElem_mem hlt))
      have HW := Lib.hid (show wrap64 ((j : Int) + 1) = ((j + 1 : Nat) : Int) by have := HD.out.1; unfold wrap64; omega)
      clear ga hx0 hv0
      cases hh : l[j].has with
      | true =>
        rw [hh] at k2
        rw [hh, if_pos rfl] at hdo
        have HO := Lib.hid hdo
        clear k1 k3 hdo hh
        go_wp2_with fail
        refine wp_region_vals 11 [fun v _ => v = u0,
          fun v _ => v = .slice (some ⟨bk, ofs, none⟩) l.length c,
          fun v _ => v = .int .i64 (j : Nat),
          fun v _ => v = .pointer (some ⟨bk, ofs + j * 5, none⟩),
          fun v _ => v = .pointer (some ⟨bk, ofs + j * 5, none⟩),
          fun v _ => v = .slice A0 l[j].p.length cc,
          fun v _ => v = .slice (some ⟨bk, ofs, none⟩) l.length c,
          fun v _ => v = .int .i64 (j : Nat),
          fun v _ => v = .pointer (some ⟨bk, ofs + j * 5, none⟩),
          fun v _ => v = .pointer (some ⟨bk, ofs + j * 5 + 4, none⟩),
          fun v _ => v = .int .u64 (l[j].new : Nat)]
          (by kernel_rfl) (by kernel_rfl) (by kernel_rfl) (by kernel_rfl) ?_ ?_ ?_
        · intro V hV v w1 w2 h hb
          simp only [List.mem_cons, List.not_mem_nil, or_false] at hV
          rcases hV with rfl | rfl | rfl | rfl | rfl | rfl | rfl | rfl | rfl | rfl | rfl
          all_goals first | exact h | (exact h)
        · intro i o hi ho
          match i, hi with
          | 0, _ =>
          obtain rfl := Option.some.inj ho
          intro a1 w1 K hk hK
          have e0 : a1.tmps.getD 0 undef = u0 := hk.same 0 (by simp)
          simp [Region.wanted, Oper.wp, Act.eval, go_sem, e0, h3, h5, k0, k4]
          exact hK _ _ (Below.refl _ _) rfl
          | 1, _ =>
          obtain rfl := Option.some.inj ho
          intro a1 w1 K hk hK
          have e1 : a1.tmps.getD 1 undef = .slice (some ⟨bk, ofs, none⟩) l.length c := hk.same 1 (by simp)
          simp [Region.wanted, Oper.wp, Act.eval, go_sem, e1, h3, h5, k0, k4]
          exact hK _ _ (Below.refl _ _) rfl
          | 2, _ =>
          obtain rfl := Option.some.inj ho
          intro a1 w1 K hk hK
          have e5 : a1.tmps.getD 5 undef = .int .i64 (j : Nat) := hk.same 5 (by simp)
          simp [Region.wanted, Oper.wp, Act.eval, go_sem, e5, h3, h5, k0, k4]
          exact hK _ _ (Below.refl _ _) rfl
          | 3, _ =>
          obtain rfl := Option.some.inj ho
          intro a1 w1 K hk hK
          have d18 : a1.tmps.getD 18 undef = .slice (some ⟨bk, ofs, none⟩) l.length c := hk.deps ⟨1, .data⟩ (by simp) rfl _ _ rfl rfl
          have d19 : a1.tmps.getD 19 undef = .int .i64 (j : Nat) := hk.deps ⟨2, .data⟩ (by simp) rfl _ _ rfl rfl
          simp [Region.wanted, Oper.wp, Act.eval, go_sem, d18, d19, h3, h5, k0, k4]
          exact hK _ _ (Below.refl _ _) rfl
          | 4, _ =>
          obtain rfl := Option.some.inj ho
          intro a1 w1 K hk hK
          have d20 : a1.tmps.getD 20 undef = .pointer (some ⟨bk, ofs + j * 5, none⟩) := hk.deps ⟨3, .data⟩ (by simp) rfl _ _ rfl rfl
          simp [Region.wanted, Oper.wp, Act.eval, go_sem, d20, h3, h5, k0, k4]
          exact hK _ _ (Below.refl _ _) rfl
          | 5, _ =>
          obtain rfl := Option.some.inj ho
          intro a1 w1 K hk hK
          have d21 : a1.tmps.getD 21 undef = .pointer (some ⟨bk, ofs + j * 5, none⟩) := hk.deps ⟨4, .data⟩ (by simp) rfl _ _ rfl rfl
          have c0 : w1.cell? ⟨bk, ofs + j * 5, none⟩ = some (.slice A0 l[j].p.length cc) := Below.keeps hk.ext _ _ (by simp [go_sem, h3, h5, k0, k4])
          have c1 : w1.cell? ⟨bk, ofs + j * 5 + 4, none⟩ = some (.int .u64 (l[j].new : Nat)) := Below.keeps hk.ext _ _ (by simp [go_sem, h3, h5, k0, k4])
          simp [Region.wanted, Oper.wp, Act.eval, go_sem, d21, c0, c1, h3, h5, k0, k4]
          exact hK _ _ (Below.refl _ _) rfl
          | 6, _ =>
          obtain rfl := Option.some.inj ho
          intro a1 w1 K hk hK
          have e1 : a1.tmps.getD 1 undef = .slice (some ⟨bk, ofs, none⟩) l.length c := hk.same 1 (by simp)
          simp [Region.wanted, Oper.wp, Act.eval, go_sem, e1, h3, h5, k0, k4]
          exact hK _ _ (Below.refl _ _) rfl
          | 7, _ =>
          obtain rfl := Option.some.inj ho
          intro a1 w1 K hk hK
          have e5 : a1.tmps.getD 5 undef = .int .i64 (j : Nat) := hk.same 5 (by simp)
          simp [Region.wanted, Oper.wp, Act.eval, go_sem, e5, h3, h5, k0, k4]
          exact hK _ _ (Below.refl _ _) rfl
          | 8, _ =>
          obtain rfl := Option.some.inj ho
          intro a1 w1 K hk hK
          have d23 : a1.tmps.getD 23 undef = .slice (some ⟨bk, ofs, none⟩) l.length c := hk.deps ⟨6, .data⟩ (by simp) rfl _ _ rfl rfl
          have d24 : a1.tmps.getD 24 undef = .int .i64 (j : Nat) := hk.deps ⟨7, .data⟩ (by simp) rfl _ _ rfl rfl
          simp [Region.wanted, Oper.wp, Act.eval, go_sem, d23, d24, h3, h5, k0, k4]
          exact hK _ _ (Below.refl _ _) rfl
          | 9, _ =>
          obtain rfl := Option.some.inj ho
          intro a1 w1 K hk hK
          have d25 : a1.tmps.getD 25 undef = .pointer (some ⟨bk, ofs + j * 5, none⟩) := hk.deps ⟨8, .data⟩ (by simp) rfl _ _ rfl rfl
          simp [Region.wanted, Oper.wp, Act.eval, go_sem, d25, h3, h5, k0, k4]
          exact hK _ _ (Below.refl _ _) rfl
          | 10, _ =>
          obtain rfl := Option.some.inj ho
          intro a1 w1 K hk hK
          have d26 : a1.tmps.getD 26 undef = .pointer (some ⟨bk, ofs + j * 5 + 4, none⟩) := hk.deps ⟨9, .data⟩ (by simp) rfl _ _ rfl rfl
          have c0 : w1.cell? ⟨bk, ofs + j * 5, none⟩ = some (.slice A0 l[j].p.length cc) := Below.keeps hk.ext _ _ (by simp [go_sem, h3, h5, k0, k4])
          have c1 : w1.cell? ⟨bk, ofs + j * 5 + 4, none⟩ = some (.int .u64 (l[j].new : Nat)) := Below.keeps hk.ext _ _ (by simp [go_sem, h3, h5, k0, k4])
          simp [Region.wanted, Oper.wp, Act.eval, go_sem, d26, c0, c1, h3, h5, k0, k4]
          exact hK _ _ (Below.refl _ _) rfl
        · intro vs w3 hl hb3 hv
          match vs, hl with
          | [v0, v1, v2, v3, v4, v5, v6, v7, v8, v9, v10], _ =>
          obtain rfl : v0 = u0 := hv 0 (by omega)
          obtain rfl : v1 = .slice (some ⟨bk, ofs, none⟩) l.length c := hv 1 (by omega)
          obtain rfl : v2 = .int .i64 (j : Nat) := hv 2 (by omega)
          obtain rfl : v3 = .pointer (some ⟨bk, ofs + j * 5, none⟩) := hv 3 (by omega)
          obtain rfl : v4 = .pointer (some ⟨bk, ofs + j * 5, none⟩) := hv 4 (by omega)
          obtain rfl : v5 = .slice A0 l[j].p.length cc := hv 5 (by omega)
          obtain rfl : v6 = .slice (some ⟨bk, ofs, none⟩) l.length c := hv 6 (by omega)
          obtain rfl : v7 = .int .i64 (j : Nat) := hv 7 (by omega)
          obtain rfl : v8 = .pointer (some ⟨bk, ofs + j * 5, none⟩) := hv 8 (by omega)
          obtain rfl : v9 = .pointer (some ⟨bk, ofs + j * 5 + 4, none⟩) := hv 9 (by omega)
          obtain rfl : v10 = .int .u64 (l[j].new : Nat) := hv 10 (by omega)
          clear hv
          simp only [putAll, List.take_succ_cons, List.take_zero, List.drop_succ_cons, List.drop_zero, Act.put, List.setIfInBounds_toArray, List.set_cons_succ, List.set_cons_zero]
          have HB3 := Lib.hid (HB.out.trans (hb3.mono HB.out.size))
          have HC3 := Lib.hid (HC.out.1.below hb3)
          have HP3 := Lib.hid (HP.out.below hb3)
          clear hb3
          go_wp2_with fail
          refine (rPut_any k cur l[j].p l[j].new _ _ _ HC3.out HP3.out HC.out.2.1 HS.out).mono ?_
          rintro e w4 ⟨v4, rfl, hv4, hb4⟩
          have HV4 := Lib.hid hv4
          have HB4 := Lib.hid (HB3.out.trans (hb4.mono HB3.out.size))
          clear hv4 hb4
          go_wp2_with fail
          go_roundw
          case rel => exact ⟨j + 1, insE l[j].p l[j].new cur, by omega, by rw [HW.out], HV4.out, HC.out.2.1.ins _ HS.out (by have := HC.out.2.2; have := HD.out.1; omega), Nat.le_trans Od.ins_length (by have := HC.out.2.2; omega), HO.out, HB4.out⟩
          case measure => rw [intOf_of' HW.out, intOf_of' rfl]; omega
      | false =>
        rw [hh] at k2
        rw [hh, if_neg (by simp)] at hdo
        have HO := Lib.hid hdo
        clear k1 k3 k4 hdo hh
        go_wp2_with fail
        refine (rDel_any k cur l[j].p _ _ _ HC.out.1 HP.out HC.out.2.1 HS.out).mono ?_
        rintro e w4 ⟨v4, rfl, hv4, hb4⟩
        have HV4 := Lib.hid hv4
        have HB4 := Lib.hid (HB.out.trans (hb4.mono HB.out.size))
        clear hv4 hb4
        go_wp2_with fail
        go_roundw
        case rel => exact ⟨j + 1, delE l[j].p cur, by omega, by rw [HW.out], HV4.out, HC.out.2.1.del _, Nat.le_trans Od.del_length (by have := HC.out.2.2; omega), HO.out, HB4.out⟩
        case measure => rw [intOf_of' HW.out, intOf_of' rfl]; omega
    · rw [List.drop_of_length_le (by omega)] at hdo
      have HO := Lib.hid (show cur = doL es0 l from hdo)
      clear hdo
      go_wp2_with fail
      go_ret
      rw [← HO.out]
      exact RetE.mk HC.out.1 HB.out

theorem beforeL_append (a b : List Ch) : beforeL (a ++ b) = beforeL a ++ beforeL b := List.filterMap_append ..
set_option maxRecDepth 8000 in
set_option maxHeartbeats 2000000 in
theorem rBefore_any (l : List Ch) (vl : Value) (w : World) (hl0 : RdC w vl l) (hn : l.length ≤ 1000) :
    Calls Try.prog 87 #[vl] w fun e w' => RetE w (beforeL l) e w' := by
  obtain ⟨A, c, rfl, ga0⟩ := hl0
  have HD := Lib.hid hn
  have HG := Lib.hid ga0
  clear hn ga0
  go_enter Try.func87, Try.ntmps87
  go_wp2_with fail
  go_loopw [3, 4] (fun vo i wr => ∃ (j : Nat), j ≤ l.length ∧ i = .int .i64 j ∧ OwnE w wr vo (beforeL (l.take j)) ∧ (beforeL (l.take j)).length ≤ j ∧ Below w.heap.size w wr) (fun _ i _ => l.length - (intOf i).toNat)
  case atStart => exact ⟨0, Nat.zero_le _, rfl, OwnE.lit (Nat.le_refl _) rfl, Nat.zero_le _, (by repeat (first | exact Below.refl _ _ | assumption | (refine Below.drew ?_) | (refine below_drewN' ?_ _) | (refine below_alloc' ?_ _)))⟩
  case round =>
    obtain ⟨j, hj, rfl, hown, hlo, hb⟩ := hrel
    have HB := Lib.hid hb
    have HO := Lib.hid (And.intro hown hlo)
    clear hown hlo hb
    by_cases hlt : j < l.length
    · have h3 : (j : Int) < l.length := by omega
      have h5 : (0 : Int) ≤ (j : Int) := by omega
      obtain ⟨bk, ofs, rfl, ga⟩ := HG.out (by omega)
      have hat := ga j hlt
      obtain ⟨v0, k0, hv0, k1, k2, k3, k4⟩ := hat
      have HP := Lib.hid hv0
      obtain ⟨A0, cc, rfl, hx0⟩ := RdU.point hv0
      replace k0 := Below.keeps HB.out _ _ k0
      replace k1 := Below.keeps HB.out _ _ k1
      replace k3 := Below.keeps HB.out _ _ k3
      have hblt : bk < wr.heap.size := World.block_lt_of_cell? wr _ k0
      have HT := Lib.hid (show beforeL (l.take (j + 1)) = beforeL (l.take j) ++ beforeL [l[j]] by rw [← beforeL_append, List.take_append_getElem hlt])
      have HW := Lib.hid (show wrap64 ((j : Int) + 1) = ((j + 1 : Nat) : Int) by have := HD.out; unfold wrap64; omega)
      clear ga hx0 hv0 k2 k4
      cases hh : l[j].had with
      | true =>
        rw [hh] at k1
        have HT2 := Lib.hid (show beforeL (l.take (j + 1)) = beforeL (l.take j) ++ [⟨l[j].p, l[j].old⟩] by rw [HT.out]; simp [beforeL, hh])
        clear HT hh
        go_wp2_with fail
        refine wp_region_vals 13 [fun v _ => v = u3,
          fun v _ => v = .slice (some ⟨bk, ofs, none⟩) l.length c,
          fun v _ => v = .int .i64 (j : Nat),
          fun v _ => v = .pointer (some ⟨bk, ofs + j * 5, none⟩),
          fun v _ => v = .pointer (some ⟨bk, ofs + j * 5, none⟩),
          fun v _ => v = .slice A0 l[j].p.length cc,
          fun v _ => v = .slice (some ⟨bk, ofs, none⟩) l.length c,
          fun v _ => v = .int .i64 (j : Nat),
          fun v _ => v = .pointer (some ⟨bk, ofs + j * 5, none⟩),
          fun v _ => v = .pointer (some ⟨bk, ofs + j * 5 + 3, none⟩),
          fun v _ => v = .int .u64 (l[j].old : Nat),
          fun v _ => v = .agg #[.slice A0 l[j].p.length cc, .int .u64 (l[j].old : Nat)],
          fun v9 w9 => ∃ g, v9 = .slice (some ⟨g, 0, none⟩) 1 1 ∧ w9.cell? ⟨g, 0, none⟩ = some (.slice A0 l[j].p.length cc) ∧ w9.cell? ⟨g, 1, none⟩ = some (.int .u64 (l[j].old : Nat))]
          (by kernel_rfl) (by kernel_rfl) (by kernel_rfl) (by kernel_rfl) ?_ ?_ ?_
        · intro V hV v w1 w2 h hb
          simp only [List.mem_cons, List.not_mem_nil, or_false] at hV
          rcases hV with rfl | rfl | rfl | rfl | rfl | rfl | rfl | rfl | rfl | rfl | rfl | rfl | rfl
          all_goals first | exact h | (obtain ⟨g, h1, h2, h3⟩ := h; exact ⟨g, h1, Below.keeps hb _ _ h2, Below.keeps hb _ _ h3⟩)
        · intro i o hi ho
          match i, hi with
          | 0, _ =>
          obtain rfl := Option.some.inj ho
          intro a1 w1 K hk hK
          have e3 : a1.tmps.getD 3 undef = u3 := hk.same 3 (by simp)
          simp [Region.wanted, Oper.wp, Act.eval, go_sem, e3, h3, h5, k0, k3]
          exact hK _ _ (Below.refl _ _) rfl
          | 1, _ =>
          obtain rfl := Option.some.inj ho
          intro a1 w1 K hk hK
          have e0 : a1.tmps.getD 0 undef = .slice (some ⟨bk, ofs, none⟩) l.length c := hk.same 0 (by simp)
          simp [Region.wanted, Oper.wp, Act.eval, go_sem, e0, h3, h5, k0, k3]
          exact hK _ _ (Below.refl _ _) rfl
          | 2, _ =>
          obtain rfl := Option.some.inj ho
          intro a1 w1 K hk hK
          have e4 : a1.tmps.getD 4 undef = .int .i64 (j : Nat) := hk.same 4 (by simp)
          simp [Region.wanted, Oper.wp, Act.eval, go_sem, e4, h3, h5, k0, k3]
          exact hK _ _ (Below.refl _ _) rfl
          | 3, _ =>
          obtain rfl := Option.some.inj ho
          intro a1 w1 K hk hK
          have d18 : a1.tmps.getD 18 undef = .slice (some ⟨bk, ofs, none⟩) l.length c := hk.deps ⟨1, .data⟩ (by simp) rfl _ _ rfl rfl
          have d19 : a1.tmps.getD 19 undef = .int .i64 (j : Nat) := hk.deps ⟨2, .data⟩ (by simp) rfl _ _ rfl rfl
          simp [Region.wanted, Oper.wp, Act.eval, go_sem, d18, d19, h3, h5, k0, k3]
          exact hK _ _ (Below.refl _ _) rfl
          | 4, _ =>
          obtain rfl := Option.some.inj ho
          intro a1 w1 K hk hK
          have d20 : a1.tmps.getD 20 undef = .pointer (some ⟨bk, ofs + j * 5, none⟩) := hk.deps ⟨3, .data⟩ (by simp) rfl _ _ rfl rfl
          simp [Region.wanted, Oper.wp, Act.eval, go_sem, d20, h3, h5, k0, k3]
          exact hK _ _ (Below.refl _ _) rfl
          | 5, _ =>
          obtain rfl := Option.some.inj ho
          intro a1 w1 K hk hK
          have d21 : a1.tmps.getD 21 undef = .pointer (some ⟨bk, ofs + j * 5, none⟩) := hk.deps ⟨4, .data⟩ (by simp) rfl _ _ rfl rfl
          have c0 : w1.cell? ⟨bk, ofs + j * 5, none⟩ = some (.slice A0 l[j].p.length cc) := Below.keeps hk.ext _ _ (by simp [go_sem, h3, h5, k0, k3])
          have c1 : w1.cell? ⟨bk, ofs + j * 5 + 3, none⟩ = some (.int .u64 (l[j].old : Nat)) := Below.keeps hk.ext _ _ (by simp [go_sem, h3, h5, k0, k3])
          simp [Region.wanted, Oper.wp, Act.eval, go_sem, d21, c0, c1, h3, h5, k0, k3]
          exact hK _ _ (Below.refl _ _) rfl
          | 6, _ =>
          obtain rfl := Option.some.inj ho
          intro a1 w1 K hk hK
          have e0 : a1.tmps.getD 0 undef = .slice (some ⟨bk, ofs, none⟩) l.length c := hk.same 0 (by simp)
          simp [Region.wanted, Oper.wp, Act.eval, go_sem, e0, h3, h5, k0, k3]
          exact hK _ _ (Below.refl _ _) rfl
          | 7, _ =>
          obtain rfl := Option.some.inj ho
          intro a1 w1 K hk hK
          have e4 : a1.tmps.getD 4 undef = .int .i64 (j : Nat) := hk.same 4 (by simp)
          simp [Region.wanted, Oper.wp, Act.eval, go_sem, e4, h3, h5, k0, k3]
          exact hK _ _ (Below.refl _ _) rfl
          | 8, _ =>
          obtain rfl := Option.some.inj ho
          intro a1 w1 K hk hK
          have d23 : a1.tmps.getD 23 undef = .slice (some ⟨bk, ofs, none⟩) l.length c := hk.deps ⟨6, .data⟩ (by simp) rfl _ _ rfl rfl
          have d24 : a1.tmps.getD 24 undef = .int .i64 (j : Nat) := hk.deps ⟨7, .data⟩ (by simp) rfl _ _ rfl rfl
          simp [Region.wanted, Oper.wp, Act.eval, go_sem, d23, d24, h3, h5, k0, k3]
          exact hK _ _ (Below.refl _ _) rfl
          | 9, _ =>
          obtain rfl := Option.some.inj ho
          intro a1 w1 K hk hK
          have d25 : a1.tmps.getD 25 undef = .pointer (some ⟨bk, ofs + j * 5, none⟩) := hk.deps ⟨8, .data⟩ (by simp) rfl _ _ rfl rfl
          simp [Region.wanted, Oper.wp, Act.eval, go_sem, d25, h3, h5, k0, k3]
          exact hK _ _ (Below.refl _ _) rfl
          | 10, _ =>
          obtain rfl := Option.some.inj ho
          intro a1 w1 K hk hK
          have d26 : a1.tmps.getD 26 undef = .pointer (some ⟨bk, ofs + j * 5 + 3, none⟩) := hk.deps ⟨9, .data⟩ (by simp) rfl _ _ rfl rfl
          have c0 : w1.cell? ⟨bk, ofs + j * 5, none⟩ = some (.slice A0 l[j].p.length cc) := Below.keeps hk.ext _ _ (by simp [go_sem, h3, h5, k0, k3])
          have c1 : w1.cell? ⟨bk, ofs + j * 5 + 3, none⟩ = some (.int .u64 (l[j].old : Nat)) := Below.keeps hk.ext _ _ (by simp [go_sem, h3, h5, k0, k3])
          simp [Region.wanted, Oper.wp, Act.eval, go_sem, d26, c0, c1, h3, h5, k0, k3]
          exact hK _ _ (Below.refl _ _) rfl
          | 11, _ =>
          obtain rfl := Option.some.inj ho
          intro a1 w1 K hk hK
          have d22 : a1.tmps.getD 22 undef = .slice A0 l[j].p.length cc := hk.deps ⟨5, .data⟩ (by simp) rfl _ _ rfl rfl
          have d22x : a1.tmps[22]?.getD undef = .slice A0 l[j].p.length cc := by rw [← d22]; simp
          have d27 : a1.tmps.getD 27 undef = .int .u64 (l[j].old : Nat) := hk.deps ⟨10, .data⟩ (by simp) rfl _ _ rfl rfl
          have d27x : a1.tmps[27]?.getD undef = .int .u64 (l[j].old : Nat) := by rw [← d27]; simp
          simp [Region.wanted, Oper.wp, Act.eval, go_sem, d22, d22x, d27, d27x, h3, h5, k0, k3]
          exact hK _ _ (Below.refl _ _) rfl
          | 12, _ =>
          obtain rfl := Option.some.inj ho
          intro a1 w1 K hk hK
          have d28 : a1.tmps.getD 28 undef = .agg #[.slice A0 l[j].p.length cc, .int .u64 (l[j].old : Nat)] := hk.deps ⟨11, .data⟩ (by simp) rfl _ _ rfl rfl
          have d28x : a1.tmps[28]?.getD undef = .agg #[.slice A0 l[j].p.length cc, .int .u64 (l[j].old : Nat)] := by rw [← d28]; simp
          simp [Region.wanted, Oper.wp, Act.eval, go_sem, d28, d28x, h3, h5, k0, k3]
          refine hK _ _ (by repeat (first | exact Below.refl _ _ | assumption | (refine Below.drew ?_) | (refine below_drewN' ?_ _) | (refine below_alloc' ?_ _))) ⟨_, rfl, ?_, ?_⟩
          all_goals simp [go_sem]
        · intro vs w3 hl hb3 hv
          match vs, hl with
          | [v0, v1, v2, v3, v4, v5, v6, v7, v8, v9, v10, v11, v12], _ =>
          obtain rfl : v0 = u3 := hv 0 (by omega)
          obtain rfl : v1 = .slice (some ⟨bk, ofs, none⟩) l.length c := hv 1 (by omega)
          obtain rfl : v2 = .int .i64 (j : Nat) := hv 2 (by omega)
          obtain rfl : v3 = .pointer (some ⟨bk, ofs + j * 5, none⟩) := hv 3 (by omega)
          obtain rfl : v4 = .pointer (some ⟨bk, ofs + j * 5, none⟩) := hv 4 (by omega)
          obtain rfl : v5 = .slice A0 l[j].p.length cc := hv 5 (by omega)
          obtain rfl : v6 = .slice (some ⟨bk, ofs, none⟩) l.length c := hv 6 (by omega)
          obtain rfl : v7 = .int .i64 (j : Nat) := hv 7 (by omega)
          obtain rfl : v8 = .pointer (some ⟨bk, ofs + j * 5, none⟩) := hv 8 (by omega)
          obtain rfl : v9 = .pointer (some ⟨bk, ofs + j * 5 + 3, none⟩) := hv 9 (by omega)
          obtain rfl : v10 = .int .u64 (l[j].old : Nat) := hv 10 (by omega)
          obtain rfl : v11 = .agg #[.slice A0 l[j].p.length cc, .int .u64 (l[j].old : Nat)] := hv 11 (by omega)
          have q12 : ∃ g, v12 = .slice (some ⟨g, 0, none⟩) 1 1 ∧ w3.cell? ⟨g, 0, none⟩ = some (.slice A0 l[j].p.length cc) ∧ w3.cell? ⟨g, 1, none⟩ = some (.int .u64 (l[j].old : Nat)) := hv 12 (by omega)
          clear hv
          obtain ⟨g, rfl, g0, g1⟩ := q12
          simp only [putAll, List.take_succ_cons, List.take_zero, List.drop_succ_cons, List.drop_zero, Act.put, List.setIfInBounds_toArray, List.set_cons_succ, List.set_cons_zero]
          have HB3 := Lib.hid (HB.out.trans (hb3.mono HB.out.size))
          have HO3 := Lib.hid (HO.out.1.below hb3)
          clear hb3
          refine wpList_append_E rfl (.tmp 17) (.tmp 29) rfl w (beforeL (l.take j)) [⟨l[j].p, l[j].old⟩] HO3.out (SrcE.one g0 HP.out g1) HB3.out (by have := HO.out.2; have := HD.out; simp; omega) ?_
          intro v4 w4 hown4 hb4
          rw [← HT2.out] at hown4
          have HO4 := Lib.hid hown4
          have HB4 := Lib.hid hb4
          clear hown4 hb4 g0 g1
          go_wp2_with fail
          go_roundw
          case rel => exact ⟨j + 1, by omega, by rw [HW.out], HO4.out, by rw [HT2.out]; simp; exact HO.out.2, HB4.out⟩
          case measure => rw [intOf_of' HW.out, intOf_of' rfl]; omega
      | false =>
        rw [hh] at k1
        have HT2 := Lib.hid (show beforeL (l.take (j + 1)) = beforeL (l.take j) by rw [HT.out]; simp [beforeL, hh])
        clear HT hh
        go_wp2_with fail
        go_roundw
        case rel => exact ⟨j + 1, by omega, by rw [HW.out], by rw [HT2.out]; exact HO.out.1, by rw [HT2.out]; have := HO.out.2; omega, HB.out⟩
        case measure => rw [intOf_of' HW.out, intOf_of' rfl]; omega
    · have HO2 := Lib.hid (show OwnE w wr u3 (beforeL l) by have := HO.out.1; rwa [List.take_of_length_le (by omega)] at this)
      go_wp2_with fail
      go_ret
      exact RetE.mk (HO2.out.rd HB.out) HB.out

theorem pointsL_cons (a : List En) (e : En) (l : List En) : pointsL a (e :: l) = pointsL (insE e.p 0 a) l := rfl
set_option maxRecDepth 8000 in
set_option maxHeartbeats 2000000 in
theorem rPoints_any (k : Nat) (es0 l : List En) (v vl : Value) (w : World) (hv : RdE w v es0) (hl0 : RdE w vl l) (he : EtS k es0) (hs : EtS k l) (hn : es0.length + l.length ≤ 1000) :
    Calls Try.prog 139 #[v, vl] w fun e w' => RetE w (pointsL es0 l) e w' := by
  obtain ⟨A, c, rfl, hcap, ga0⟩ := hl0
  have HD := Lib.hid (And.intro hn hs)
  have HG := Lib.hid ga0
  have HV := Lib.hid (And.intro hv he)
  clear hn hs ga0 hv he hcap
  go_enter Try.func139, Try.ntmps139
  go_wp2_with fail
  go_loopw [0, 5] (fun vin i wr => ∃ (j : Nat) (cur : List En), j ≤ l.length ∧ i = .int .i64 j ∧ RdE wr vin cur ∧ EtS k cur ∧ cur.length ≤ es0.length + j ∧ pointsL cur (l.drop j) = pointsL es0 l ∧ Below w.heap.size w wr) (fun _ i _ => l.length - (intOf i).toNat)
  case atStart => exact ⟨0, es0, Nat.zero_le _, rfl, HV.out.1, HV.out.2, Nat.le_refl _, rfl, (by repeat (first | exact Below.refl _ _ | assumption | (refine Below.drew ?_) | (refine below_drewN' ?_ _) | (refine below_alloc' ?_ _)))⟩
  case round =>
    obtain ⟨j, cur, hj, rfl, hcur, hes, hcl, hdo, hb⟩ := hrel
    have HB := Lib.hid hb
    have HC := Lib.hid (And.intro hcur (And.intro hes hcl))
    clear hcur hes hcl hb
    by_cases hlt : j < l.length
    · have h3 : (j : Int) < l.length := by omega
      have h5 : (0 : Int) ≤ (j : Int) := by omega
      obtain ⟨bk, ofs, rfl, ga⟩ := HG.out (by omega)
      obtain ⟨v0, k0, hv0, k1⟩ := (ga j hlt).keep (Below.keeps HB.out)
      have hblt : bk < wr.heap.size := World.block_lt_of_cell? wr _ k0
      have HP := Lib.hid hv0
      obtain ⟨A0, cc, rfl, hx0⟩ := RdU.point hv0
      rw [List.drop_eq_getElem_cons hlt, pointsL_cons] at hdo
      have HO := Lib.hid hdo
      have HS := Lib.hid (show PtS k l[j].p from ⟨HD.out.2.et.len _ (List.getElem_mem hlt), HD.out.2.et.ok _ (List.getElem_mem hlt)⟩)
      have HW := Lib.hid (show wrap64 ((j : Int) + 1) = ((j + 1 : Nat) : Int) by have := HD.out.1; unfold wrap64; omega)
      clear ga hx0 hv0 hdo k1
      go_wp2_with fail
      refine (rPut_any k cur l[j].p 0 _ _ _ HC.out.1 HP.out HC.out.2.1 HS.out).mono ?_
      rintro e w4 ⟨v4, rfl, hv4, hb4⟩
      have HV4 := Lib.hid hv4
      have HB4 := Lib.hid (HB.out.trans (hb4.mono HB.out.size))
      clear hv4 hb4
      go_wp2_with fail
      go_roundw
      case rel => exact ⟨j + 1, insE l[j].p 0 cur, by omega, by rw [HW.out], HV4.out, HC.out.2.1.ins _ HS.out (by have := HC.out.2.2; have := HD.out.1; omega), Nat.le_trans Od.ins_length (by have := HC.out.2.2; omega), HO.out, HB4.out⟩
      case measure => rw [intOf_of' HW.out, intOf_of' rfl]; omega
    · rw [List.drop_of_length_le (by omega)] at hdo
      have HO := Lib.hid (show cur = pointsL es0 l from hdo)
      clear hdo
      go_wp2_with fail
      go_ret
      rw [← HO.out]
      exact RetE.mk HC.out.1 HB.out
end Go.Proofs.Ytlmgabhdeeehmaa
