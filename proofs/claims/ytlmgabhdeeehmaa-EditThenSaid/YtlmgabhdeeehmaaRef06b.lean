/-
  The walks of pantileref06.Del and Put.
-/
import Derived.Test.YtlmgabhdeeehmaaRef06
import Derived.Test.YtlmgabhdeeehmaaRegion
namespace Go.Proofs.Ytlmgabhdeeehmaa
open Go.RowKit
set_option linter.unusedVariables false
set_option linter.unusedSimpArgs false

theorem RdE.drop' {w : World} {b o c : Nat} {l : List En} (h : RdE w (.slice (some ⟨b, o, none⟩) l.length c) l) (k : Nat) (hk : k ≤ l.length) :
    RdE w (.slice (if c = k then some ⟨b, o, none⟩ else some ⟨b, o + k * 2, none⟩) (l.length - k) (c - k)) (l.drop k) := by
  have := h.drop k hk
  rw [show (if c = k then some (⟨b, o, none⟩ : Addr) else some ⟨b, o + k * 2, none⟩) = (if c = k then some ⟨b, o, none⟩ else (some (⟨b, o, none⟩ : Addr)).map (·.add (k * 2))) by
    split
    · rfl
    · simp only [Option.map_some, Addr.add]
      split
      · rename_i h0; rw [h0]; rfl
      · rfl]
  exact this
theorem wp_append_run {P : Program} {o : Oper} {a : Act} {w w' : World} {v' : Value} {K : Act → World → Prop} {Q : Exit → Act → World → Prop} {s x : Operand} {t : TypeId}
    (ho : o.op = .call { callee := .builtin .append, args := #[s, x], argTypes := #[t, t] }) (hrun : (Builtin.append_ #[t, t] o.type #[a.eval s, a.eval x]).run P w = .ok v' w') (hK : K (a.put o.dst v') w') : o.wp P a w K Q := by
  unfold Oper.wp execOp
  simp only [ho, resolve, invoke, builtin, Sem.run_bind, Sem.run_pure, Result.andThen_ok, List.map_toArray, List.map_cons, List.map_nil, hrun]
  exact hK
/-- a slice of entries is handed back -/
def RetE (W : World) (l : List En) (e : Ending) (w' : World) : Prop := ∃ v, e = .returned v ∧ RdE w' v l ∧ Below W.heap.size W w'
theorem RetE.mk {W w' : World} {l : List En} {v : Value} (h : RdE w' v l) (hb : Below W.heap.size W w') : RetE W l (.returned v) w' := ⟨v, rfl, h, hb⟩

theorem run_append_E0 (W w : World) (v x : Value) (m : List En) (g : Nat) (hg : v = .slice (some ⟨g, 0, none⟩) 0 0) (hown : OwnE W w v []) (hx : SrcE W w x m) (hb : Below W.heap.size W w) (hlen : m.length ≤ 100000) (ty : TypeId) :
    ∃ v' w', (Builtin.append_ #[95, 95] ty #[v, x]).run Try.prog w = .ok v' w' ∧ OwnE W w' v' m ∧ Below w.heap.size w w' := by
  subst hg
  obtain ⟨cs, ho, hc⟩ := hown
  obtain rfl : cs = [] := hc
  obtain ⟨ds, hd, hx⟩ := hx
  obtain ⟨v', w', a1, a2, a3⟩ := run_append_lit (P := Try.prog) w W.heap.size 95 ty 180 _ 2 32 Try.underlying95 entryInfo rfl (by omega) g ho x m.length ds hx (by simp only [maxLen]; omega) (by omega) hb.size
  exact ⟨v', w', a1, ⟨_, a2, hd⟩, a3⟩

set_option maxRecDepth 8000 in
set_option maxHeartbeats 1000000 in
theorem rDel_any (k : Nat) (l : List En) (p : List Nat) (v vp : Value) (w : World) (hv : RdE w v l) (hp : RdU w vp (pti p)) (hl : EtS k l) (hs : PtS k p) :
    Calls Try.prog 137 #[v, vp] w fun e w' => RetE w (delE p l) e w' := by
  have HP := Lib.hid (rPlace_any k l p v vp w hv hp hl hs)
  have HL := Lib.hid (Od.del_place (key := En.key) (n := pkey p) hl.et.asc)
  have HV := Lib.hid hv
  obtain ⟨A, c, rfl, hcap, ga0⟩ := hv
  cases hb : (Od.place En.key (pkey p) l).2 with
  | false =>
    rw [hb] at HP HL
    generalize (Od.place En.key (pkey p) l).1 = i at *
    have HE := Lib.hid (show delE p l = l from HL.out)
    clear ga0 hcap hp hl hs hb HL
    go_enter Try.func137, Try.ntmps137
    go_wp2_with fail
    refine HP.out.mono ?_
    rintro e w' ⟨rfl, hb⟩
    go_wp2_with fail
    go_ret
    rw [HE.out]
    exact RetE.mk (HV.out.below hb) hb
  | true =>
    obtain ⟨hq, hqk⟩ := Od.place_lt hb
    clear hqk
    rw [hb] at HP HL
    generalize (Od.place En.key (pkey p) l).1 = q at *
    have HE := Lib.hid (show delE p l = l.take q ++ l.drop (q + 1) from HL.out)
    obtain ⟨bk, ofs, rfl, ga⟩ := ga0 (by omega)
    have HN := Lib.hid (And.intro hl.short hq)
    have hw : IntKind.i64.wrap ((q : Int) + 1) = ((q + 1 : Nat) : Int) := IntWalk.i64_in _ (by have := hl.short; omega)
    have HT := Lib.hid (HV.out.take q (by omega))
    have HU := Lib.hid (HV.out.drop' (q + 1) (by omega))
    have h3 : q ≤ c := by omega
    have h4 : (0 : Int) ≤ (q : Int) + 1 := by omega
    have h5 : (q : Int) + 1 ≤ (l.length : Int) := by omega
    have h6 : q + 1 ≤ c := by omega
    clear ga0 ga hcap hp hl hs hb HL hq
    go_enter Try.func137, Try.ntmps137
    go_wp2_with fail
    refine HP.out.mono ?_
    rintro e w' ⟨rfl, hb⟩
    have HS := Lib.hid hb
    go_wp2_with fail
    refine wp_region_vals 9 [fun v9 w9 => OwnE w w9 v9 [] ∧ ∃ g, v9 = .slice (some ⟨g, 0, none⟩) 0 0,
      fun v _ => v = .slice (some ⟨bk, ofs, none⟩) l.length c,
      fun v _ => v = .int .i64 (q : Nat),
      fun v9 w9 => RdE w v9 (l.take q),
      fun v9 w9 => OwnE w w9 v9 (l.take q),
      fun v _ => v = .slice (some ⟨bk, ofs, none⟩) l.length c,
      fun v _ => v = .int .i64 (q : Nat),
      fun v _ => v = .int .i64 ((q + 1 : Nat) : Int),
      fun v9 w9 => RdE w v9 (l.drop (q + 1))]
      (by kernel_rfl) (by kernel_rfl) (by kernel_rfl) (by kernel_rfl) ?_ ?_ ?_
    · intro V hV v w1 w2 h hb
      simp only [List.mem_cons, List.not_mem_nil, or_false] at hV
      rcases hV with rfl | rfl | rfl | rfl | rfl | rfl | rfl | rfl | rfl
      all_goals first | exact h | (first | exact ⟨h.1.below hb, h.2⟩ | exact OwnE.below h hb)
    · intro i o hi ho
      match i, hi with
      | 0, _ =>
      obtain rfl := Option.some.inj ho
      intro a1 w1 K hk hK
      simp [Region.wanted, Oper.wp, Act.eval, go_sem, hw, h3, h4, h5, h6]
      exact hK _ _ (by repeat (first | exact Below.refl _ _ | assumption | (refine Below.drew ?_) | (refine below_drewN' ?_ _) | (refine below_alloc' ?_ _))) ⟨OwnE.lit (Nat.le_trans HS.out.size hk.ext.size) rfl, _, rfl⟩
      | 1, _ =>
      obtain rfl := Option.some.inj ho
      intro a1 w1 K hk hK
      have e0 : a1.tmps.getD 0 undef = .slice (some ⟨bk, ofs, none⟩) l.length c := hk.same 0 (by simp)
      simp [Region.wanted, Oper.wp, Act.eval, go_sem, e0, hw, h3, h4, h5, h6]
      exact hK _ _ (Below.refl _ _) rfl
      | 2, _ =>
      obtain rfl := Option.some.inj ho
      intro a1 w1 K hk hK
      have e5 : a1.tmps.getD 5 undef = .int .i64 (q : Nat) := hk.same 5 (by simp)
      simp [Region.wanted, Oper.wp, Act.eval, go_sem, e5, hw, h3, h4, h5, h6]
      exact hK _ _ (Below.refl _ _) rfl
      | 3, _ =>
      obtain rfl := Option.some.inj ho
      intro a1 w1 K hk hK
      have d17 : a1.tmps.getD 17 undef = .slice (some ⟨bk, ofs, none⟩) l.length c := hk.deps ⟨1, .data⟩ (by simp) rfl _ _ rfl rfl
      have d18 : a1.tmps.getD 18 undef = .int .i64 (q : Nat) := hk.deps ⟨2, .data⟩ (by simp) rfl _ _ rfl rfl
      simp [Region.wanted, Oper.wp, Act.eval, go_sem, d17, d18, hw, h3, h4, h5, h6]
      exact hK _ _ (by repeat (first | exact Below.refl _ _ | assumption | (refine Below.drew ?_) | (refine below_drewN' ?_ _) | (refine below_alloc' ?_ _))) HT.out
      | 4, _ =>
      obtain rfl := Option.some.inj ho
      intro a1 w1 K hk hK
      have D16 : OwnE w w1 (a1.tmps.getD 16 undef) [] ∧ ∃ g, (a1.tmps.getD 16 undef) = .slice (some ⟨g, 0, none⟩) 0 0 := hk.deps ⟨0, .data⟩ (by simp) rfl _ _ rfl rfl
      have D19 : RdE w (a1.tmps.getD 19 undef) (l.take q) := hk.deps ⟨3, .data⟩ (by simp) rfl _ _ rfl rfl
      obtain ⟨D16, g, D16'⟩ := D16
      have hbe : Below w.heap.size w w1 := below_trans HS.out (below_trans (by repeat (first | exact Below.refl _ _ | assumption | (refine Below.drew ?_) | (refine below_drewN' ?_ _) | (refine below_alloc' ?_ _))) hk.ext)
      obtain ⟨v', w', hrun, r1, r2⟩ := run_append_E0 w w1 _ _ _ g D16' D16 (D19.src hbe) hbe (by have := HN.out; rw [List.length_take]; omega) 95
      split
      · exact wp_append_run (s := .tmp 16) (x := .tmp 19) rfl hrun (hK _ _ r2 r1)
      · rename_i hw0; simp [Region.wanted] at hw0
      | 5, _ =>
      obtain rfl := Option.some.inj ho
      intro a1 w1 K hk hK
      have e0 : a1.tmps.getD 0 undef = .slice (some ⟨bk, ofs, none⟩) l.length c := hk.same 0 (by simp)
      simp [Region.wanted, Oper.wp, Act.eval, go_sem, e0, hw, h3, h4, h5, h6]
      exact hK _ _ (Below.refl _ _) rfl
      | 6, _ =>
      obtain rfl := Option.some.inj ho
      intro a1 w1 K hk hK
      have e5 : a1.tmps.getD 5 undef = .int .i64 (q : Nat) := hk.same 5 (by simp)
      simp [Region.wanted, Oper.wp, Act.eval, go_sem, e5, hw, h3, h4, h5, h6]
      exact hK _ _ (Below.refl _ _) rfl
      | 7, _ =>
      obtain rfl := Option.some.inj ho
      intro a1 w1 K hk hK
      have d22 : a1.tmps.getD 22 undef = .int .i64 (q : Nat) := hk.deps ⟨6, .data⟩ (by simp) rfl _ _ rfl rfl
      simp [Region.wanted, Oper.wp, Act.eval, go_sem, d22, hw, h3, h4, h5, h6]
      exact hK _ _ (Below.refl _ _) rfl
      | 8, _ =>
      obtain rfl := Option.some.inj ho
      intro a1 w1 K hk hK
      have d21 : a1.tmps.getD 21 undef = .slice (some ⟨bk, ofs, none⟩) l.length c := hk.deps ⟨5, .data⟩ (by simp) rfl _ _ rfl rfl
      have d23 : a1.tmps.getD 23 undef = .int .i64 ((q + 1 : Nat) : Int) := hk.deps ⟨7, .data⟩ (by simp) rfl _ _ rfl rfl
      simp [Region.wanted, Oper.wp, Act.eval, go_sem, d21, d23, hw, h3, h4, h5, h6]
      exact hK _ _ (by repeat (first | exact Below.refl _ _ | assumption | (refine Below.drew ?_) | (refine below_drewN' ?_ _) | (refine below_alloc' ?_ _))) HU.out
    · intro vs w3 hl hb3 hv
      match vs, hl with
      | [v0, v1, v2, v3, v4, v5, v6, v7, v8], _ =>
      have q0 : OwnE w w3 v0 [] ∧ ∃ g, v0 = .slice (some ⟨g, 0, none⟩) 0 0 := hv 0 (by omega)
      obtain rfl : v1 = .slice (some ⟨bk, ofs, none⟩) l.length c := hv 1 (by omega)
      obtain rfl : v2 = .int .i64 (q : Nat) := hv 2 (by omega)
      have q3 : RdE w v3 (l.take q) := hv 3 (by omega)
      have q4 : OwnE w w3 v4 (l.take q) := hv 4 (by omega)
      obtain rfl : v5 = .slice (some ⟨bk, ofs, none⟩) l.length c := hv 5 (by omega)
      obtain rfl : v6 = .int .i64 (q : Nat) := hv 6 (by omega)
      obtain rfl : v7 = .int .i64 ((q + 1 : Nat) : Int) := hv 7 (by omega)
      have q8 : RdE w v8 (l.drop (q + 1)) := hv 8 (by omega)
      clear hv
      simp only [putAll, List.take_succ_cons, List.take_zero, List.drop_succ_cons, List.drop_zero, Act.put, List.setIfInBounds_toArray, List.set_cons_succ, List.set_cons_zero]
      refine wpList_append_E rfl (.tmp 20) (.tmp 24) rfl w (l.take q) (l.drop (q + 1)) q4 (q8.src (below_trans HS.out hb3)) (below_trans HS.out hb3) (by have := HN.out; rw [List.length_take, List.length_drop]; omega) ?_
      intro v' w' hown hbw
      go_wp2_with fail
      go_ret
      rw [HE.out]
      exact RetE.mk (hown.rd hbw) hbw

theorem EtS.del {k : Nat} {l : List En} (h : EtS k l) (p : List Nat) : EtS k (delE p l) := ⟨h.et.del p, h.k40, Nat.le_trans Od.del_length h.short⟩
set_option maxRecDepth 8000 in
set_option maxHeartbeats 1000000 in
theorem rPut_any (k : Nat) (l : List En) (p : List Nat) (x : Nat) (v vp : Value) (w : World) (hv : RdE w v l) (hp : RdU w vp (pti p)) (hl : EtS k l) (hs : PtS k p) :
    Calls Try.prog 88 #[v, vp, .int .u64 (x : Nat)] w fun e w' => RetE w (insE p x l) e w' := by
  have HD := Lib.hid (rDel_any k l p v vp w hv hp hl hs)
  have HQ := Lib.hid (fun (v : Value) (w : World) (hv : RdE w v (delE p l)) (hp : RdU w vp (pti p)) => rPlace_any k (delE p l) p v vp w hv hp (hl.del p) hs)
  have HE := Lib.hid (show insE p x l = (delE p l).take (Od.place En.key (pkey p) (delE p l)).1 ++ ⟨p, x⟩ :: (delE p l).drop (Od.place En.key (pkey p) (delE p l)).1 from (Od.ins_place (key := En.key) (x := ⟨p, x⟩) hl.et.asc).trans (by rw [List.append_assoc]; rfl))
  have HN := Lib.hid (And.intro (hl.del p).short (Od.place_le En.key (pkey p) (delE p l)))
  have HP := Lib.hid hp
  obtain ⟨A0, cc, rfl, hx0⟩ := RdU.point hp
  clear hx0
  generalize (Od.place En.key (pkey p) (delE p l)).1 = q at *
  generalize (Od.place En.key (pkey p) (delE p l)).2 = fl at *
  generalize delE p l = m at *
  clear hl hs hv hp
  go_enter Try.func88, Try.ntmps88
  go_wp2_with fail
  refine HD.out.mono ?_
  rintro e w1 ⟨v1, rfl, hv1, hb1⟩
  have HB := Lib.hid hb1
  go_wp2_with fail
  refine (HQ.out _ _ hv1 (HP.out.below HB.out)).mono ?_
  rintro e w2 ⟨rfl, hb2⟩
  have HB2 := Lib.hid (HB.out.trans (hb2.mono HB.out.size))
  have HV := Lib.hid (hv1.below hb2)
  have HP2 := Lib.hid (HP.out.below HB2.out)
  clear hb2
  obtain ⟨A, c, rfl, hcap, hx⟩ := hv1
  have h3 : q ≤ c := by have := HN.out; omega
  have h4 : (q : Int) ≤ (m.length : Int) := by have := HN.out; omega
  by_cases hc : 0 < c
  · obtain ⟨bk, ofs, rfl⟩ := hcap.2.2 hc
    clear hcap hx hc hb1
    have HT := Lib.hid (HV.out.take q HN.out.2)
    have HU := Lib.hid (HV.out.drop' q HN.out.2)
    by_cases hcq : c = q
    · obtain rfl : q = c := hcq.symm
      rw [if_pos rfl, Nat.sub_self] at HU
      go_wp2_with ((at_builtin; refine wpList_append_E rfl (.tmp 19) (.tmp 22) rfl w2 [] (m.take q) ?_ ?_ ?_ ?_ ?_))
      · exact OwnE.lit (Nat.le_refl _) rfl
      · exact HT.out.src (by repeat (first | exact Below.refl _ _ | assumption | (refine Below.drew ?_) | (refine below_drewN' ?_ _) | (refine below_alloc' ?_ _)))
      · exact (by repeat (first | exact Below.refl _ _ | assumption | (refine Below.drew ?_) | (refine below_drewN' ?_ _) | (refine below_alloc' ?_ _)))
      · have := HN.out; simp; try omega
      intro v3 w3 hown3 hb3
      have HB3 := Lib.hid hb3
      clear hb3
      go_wp2_with ((at_builtin; refine wpList_append_E rfl (.tmp 23) (.tmp 27) rfl w2 (m.take q) [⟨p, x⟩] ?_ ?_ ?_ ?_ ?_))
      · exact hown3.alloc _
      · exact SrcE.one (by simp [go_sem]) HP2.out (by simp [go_sem])
      · have h := HB3.out; exact (by repeat (first | exact Below.refl _ _ | assumption | (refine Below.drew ?_) | (refine below_drewN' ?_ _) | (refine below_alloc' ?_ _)))
      · have := HN.out; simp; try omega
      intro v4 w4 hown4 hb4
      have HB4 := Lib.hid hb4
      clear hb4
      go_wp2_with ((at_builtin; refine wpList_append_E rfl (.tmp 29) (.tmp 32) rfl w2 (m.take q ++ [⟨p, x⟩]) (m.drop q) ?_ ?_ ?_ ?_ ?_))
      · exact hown4
      · exact HU.out.src HB4.out
      · exact HB4.out
      · have := HN.out; simp; try omega
      intro v5 w5 hown5 hb5
      go_wp2_with fail
      go_ret
      rw [HE.out]
      exact RetE.mk (by simpa using hown5.rd hb5) (HB2.out.trans (hb5.mono HB2.out.size))
    · rw [if_neg hcq] at HU
      go_wp2_with ((at_builtin; refine wpList_append_E rfl (.tmp 19) (.tmp 22) rfl w2 [] (m.take q) ?_ ?_ ?_ ?_ ?_))
      · exact OwnE.lit (Nat.le_refl _) rfl
      · exact HT.out.src (by repeat (first | exact Below.refl _ _ | assumption | (refine Below.drew ?_) | (refine below_drewN' ?_ _) | (refine below_alloc' ?_ _)))
      · exact (by repeat (first | exact Below.refl _ _ | assumption | (refine Below.drew ?_) | (refine below_drewN' ?_ _) | (refine below_alloc' ?_ _)))
      · have := HN.out; simp; try omega
      intro v3 w3 hown3 hb3
      have HB3 := Lib.hid hb3
      clear hb3
      go_wp2_with ((at_builtin; refine wpList_append_E rfl (.tmp 23) (.tmp 27) rfl w2 (m.take q) [⟨p, x⟩] ?_ ?_ ?_ ?_ ?_))
      · exact hown3.alloc _
      · exact SrcE.one (by simp [go_sem]) HP2.out (by simp [go_sem])
      · have h := HB3.out; exact (by repeat (first | exact Below.refl _ _ | assumption | (refine Below.drew ?_) | (refine below_drewN' ?_ _) | (refine below_alloc' ?_ _)))
      · have := HN.out; simp; try omega
      intro v4 w4 hown4 hb4
      have HB4 := Lib.hid hb4
      clear hb4
      go_wp2_with ((at_builtin; refine wpList_append_E rfl (.tmp 29) (.tmp 32) rfl w2 (m.take q ++ [⟨p, x⟩]) (m.drop q) ?_ ?_ ?_ ?_ ?_))
      · exact hown4
      · exact HU.out.src HB4.out
      · exact HB4.out
      · have := HN.out; simp; try omega
      intro v5 w5 hown5 hb5
      go_wp2_with fail
      go_ret
      rw [HE.out]
      exact RetE.mk (by simpa using hown5.rd hb5) (HB2.out.trans (hb5.mono HB2.out.size))
  · obtain rfl : c = 0 := by omega
    obtain rfl : m = [] := List.eq_nil_of_length_eq_zero (by omega)
    obtain rfl : q = 0 := by omega
    clear hcap hx hc hb1 h3 h4
    simp only [List.length_nil] at *
    go_wp2_with ((at_builtin; refine wpList_append_E rfl (.tmp 19) (.tmp 22) rfl w2 [] (([] : List En)) ?_ ?_ ?_ ?_ ?_))
    · exact OwnE.lit (Nat.le_refl _) rfl
    · exact (RdE.nil w2 A 0 (by simp [maxLen]) (fun h => absurd h (by omega))).src (by repeat (first | exact Below.refl _ _ | assumption | (refine Below.drew ?_) | (refine below_drewN' ?_ _) | (refine below_alloc' ?_ _)))
    · exact (by repeat (first | exact Below.refl _ _ | assumption | (refine Below.drew ?_) | (refine below_drewN' ?_ _) | (refine below_alloc' ?_ _)))
    · have := HN.out; simp; try omega
    intro v3 w3 hown3 hb3
    have HB3 := Lib.hid hb3
    clear hb3
    go_wp2_with ((at_builtin; refine wpList_append_E rfl (.tmp 23) (.tmp 27) rfl w2 (([] : List En)) [⟨p, x⟩] ?_ ?_ ?_ ?_ ?_))
    · exact hown3.alloc _
    · exact SrcE.one (by simp [go_sem]) HP2.out (by simp [go_sem])
    · have h := HB3.out; exact (by repeat (first | exact Below.refl _ _ | assumption | (refine Below.drew ?_) | (refine below_drewN' ?_ _) | (refine below_alloc' ?_ _)))
    · have := HN.out; simp; try omega
    intro v4 w4 hown4 hb4
    have HB4 := Lib.hid hb4
    clear hb4
    go_wp2_with ((at_builtin; refine wpList_append_E rfl (.tmp 29) (.tmp 32) rfl w2 (([] : List En) ++ [⟨p, x⟩]) (([] : List En)) ?_ ?_ ?_ ?_ ?_))
    · exact hown4
    · exact (RdE.nil w2 A 0 (by simp [maxLen]) (fun h => absurd h (by omega))).src HB4.out
    · exact HB4.out
    · have := HN.out; simp; try omega
    intro v5 w5 hown5 hb5
    go_wp2_with fail
    go_ret
    rw [HE.out]
    exact RetE.mk (by simpa using hown5.rd hb5) (HB2.out.trans (hb5.mono HB2.out.size))
end Go.Proofs.Ytlmgabhdeeehmaa
