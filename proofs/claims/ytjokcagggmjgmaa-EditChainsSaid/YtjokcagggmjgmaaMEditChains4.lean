/-
  Texts that the proof of EditChains leans on, part 4: contracts of functions, and plain laws.
-/
import Derived.Test.YtjokcagggmjgmaaMEditChains3
import Derived.LaidEqlPtr
/-! Ref06b -/
namespace Go.Proofs.Ytjokcagggmjgmaa
open Go.RowKit
set_option linter.unusedVariables false
set_option linter.unusedSimpArgs false

theorem RdE.drop' {w : World} {b o c : Nat} {l : List En} (h : RdE w (.slice (some ⟨b, o, none⟩) l.length c) l) (k : Nat) (hk : k ≤ l.length) :
    RdE w (.slice (if c = k then some ⟨b, o, none⟩ else some ⟨b, o + k * 2, none⟩) (l.length - k) (c - k)) (l.drop k) := by
  have := h.drop k hk
  rw [show (if c = k then some (⟨b, o, none⟩ : Addr) else some ⟨b, o + k * 2, none⟩) = (if c = k then some ⟨b, o, none⟩ else (some (⟨b, o, none⟩ : Addr)).map (·.add (k * 2))) by
    split
    · rfl
    · simp only [Option.map_some, Addr.add]
      split
      · rename_i h0; rw [h0]; rfl
      · rfl]
  exact this
/-- a slice of entries is handed back -/
def RetE (W : World) (l : List En) (e : Ending) (w' : World) : Prop := ∃ v, e = .returned v ∧ RdE w' v l ∧ Below W.heap.size W w'
theorem RetE.mk {W w' : World} {l : List En} {v : Value} (h : RdE w' v l) (hb : Below W.heap.size W w') : RetE W l (.returned v) w' := ⟨v, rfl, h, hb⟩

theorem run_append_E0 (W w : World) (v x : Value) (m : List En) (g : Nat) (hg : v = .slice (some ⟨g, 0, none⟩) 0 0) (hown : OwnE W w v []) (hx : SrcE W w x m) (hb : Below W.heap.size W w) (hlen : m.length ≤ 100000) (ty : TypeId) :
    ∃ v' w', (Builtin.append_ #[26, 26] ty #[v, x]).run Try.prog w = .ok v' w' ∧ OwnE W w' v' m ∧ Below w.heap.size w w' := by
  subst hg
  obtain ⟨cs, ho, hc⟩ := hown
  obtain rfl : cs = [] := hc
  obtain ⟨ds, hd, hx⟩ := hx
  obtain ⟨v', w', a1, a2, a3⟩ := run_append_lit (P := Try.prog) w W.heap.size 26 ty 76 _ 2 32 Try.underlying26 entryInfo rfl (by omega) g ho x m.length ds hx (by simp only [maxLen]; omega) (by omega) hb.size
  exact ⟨v', w', a1, ⟨_, a2, hd⟩, a3⟩

set_option maxRecDepth 8000 in
set_option maxHeartbeats 1000000 in
theorem rDel_any (k : Nat) (l : List En) (p : List Nat) (v vp : Value) (w : World) (hv : RdE w v l) (hp : RdU w vp (pti p)) (hl : EtS k l) (hs : PtS k p) :
    Calls Try.prog 44 #[v, vp] w fun e w' => RetE w (delE p l) e w' := by
  have HP := Lib.hid (rPlace_any k l p v vp w hv hp hl hs)
  have HL := Lib.hid (Od.del_place (key := En.key) (n := pkey p) hl.et.asc)
  have HV := Lib.hid hv
  obtain ⟨A, c, rfl, hcap, ga0⟩ := hv
  cases hb : (Od.place En.key (pkey p) l).2 with
  | false =>
    rw [hb] at HP HL
    generalize (Od.place En.key (pkey p) l).1 = i at *
    have HE := Lib.hid (show delE p l = l from HL.out)
    clear ga0 hcap hp hl hs hb HL
    go_enter Try.func44, Try.ntmps44
    go_wp2_with fail
    refine HP.out.mono ?_
    rintro e w' ⟨rfl, hb⟩
    go_wp2_with fail
    go_ret
    rw [HE.out]
    exact RetE.mk (HV.out.below hb) hb
  | true =>
    obtain ⟨hq, hqk⟩ := Od.place_lt hb
    clear hqk
    rw [hb] at HP HL
    generalize (Od.place En.key (pkey p) l).1 = q at *
    have HE := Lib.hid (show delE p l = l.take q ++ l.drop (q + 1) from HL.out)
    obtain ⟨bk, ofs, rfl, ga⟩ := ga0 (by omega)
    have HN := Lib.hid (And.intro hl.short hq)
    have hw : IntKind.i64.wrap ((q : Int) + 1) = ((q + 1 : Nat) : Int) := IntWalk.i64_in _ (by have := hl.short; omega)
    have HT := Lib.hid (HV.out.take q (by omega))
    have HU := Lib.hid (HV.out.drop' (q + 1) (by omega))
    have h3 : q ≤ c := by omega
    have h4 : (0 : Int) ≤ (q : Int) + 1 := by omega
    have h5 : (q : Int) + 1 ≤ (l.length : Int) := by omega
    have h6 : q + 1 ≤ c := by omega
    clear ga0 ga hcap hp hl hs hb HL hq
    go_enter Try.func44, Try.ntmps44
    go_wp2_with fail
    refine HP.out.mono ?_
    rintro e w' ⟨rfl, hb⟩
    have HS := Lib.hid hb
    go_wp2_with fail
    refine wp_region_vals 9 [fun v9 w9 => OwnE w w9 v9 [] ∧ ∃ g, v9 = .slice (some ⟨g, 0, none⟩) 0 0,
      fun v _ => v = .slice (some ⟨bk, ofs, none⟩) l.length c,
      fun v _ => v = .int .i64 (q : Nat),
      fun v9 w9 => RdE w v9 (l.take q),
      fun v9 w9 => OwnE w w9 v9 (l.take q),
      fun v _ => v = .slice (some ⟨bk, ofs, none⟩) l.length c,
      fun v _ => v = .int .i64 (q : Nat),
      fun v _ => v = .int .i64 ((q + 1 : Nat) : Int),
      fun v9 w9 => RdE w v9 (l.drop (q + 1))]
      (by kernel_rfl) (by kernel_rfl) (by kernel_rfl) (by kernel_rfl) ?_ ?_ ?_
    · intro V hV v w1 w2 h hb
      simp only [List.mem_cons, List.not_mem_nil, or_false] at hV
      rcases hV with rfl | rfl | rfl | rfl | rfl | rfl | rfl | rfl | rfl
      all_goals first | exact h | (first | exact ⟨h.1.below hb, h.2⟩ | exact OwnE.below h hb)
    · intro i o hi ho
      match i, hi with
      | 0, _ =>
      obtain rfl := Option.some.inj ho
      intro a1 w1 K hk hK
      simp [Region.wanted, Oper.wp, Act.eval, go_sem, hw, h3, h4, h5, h6]
      exact hK _ _ (by repeat (first | exact Below.refl _ _ | assumption | (refine Below.drew ?_) | (refine below_drewN' ?_ _) | (refine below_alloc' ?_ _))) ⟨OwnE.lit (Nat.le_trans HS.out.size hk.ext.size) rfl, _, rfl⟩
      | 1, _ =>
      obtain rfl := Option.some.inj ho
      intro a1 w1 K hk hK
      have e0 : a1.tmps.getD 0 undef = .slice (some ⟨bk, ofs, none⟩) l.length c := hk.same 0 (by simp)
      simp [Region.wanted, Oper.wp, Act.eval, go_sem, e0, hw, h3, h4, h5, h6]
      exact hK _ _ (Below.refl _ _) rfl
      | 2, _ =>
      obtain rfl := Option.some.inj ho
      intro a1 w1 K hk hK
      have e5 : a1.tmps.getD 5 undef = .int .i64 (q : Nat) := hk.same 5 (by simp)
      simp [Region.wanted, Oper.wp, Act.eval, go_sem, e5, hw, h3, h4, h5, h6]
      exact hK _ _ (Below.refl _ _) rfl
      | 3, _ =>
      obtain rfl := Option.some.inj ho
      intro a1 w1 K hk hK
      have d17 : a1.tmps.getD 17 undef = .slice (some ⟨bk, ofs, none⟩) l.length c := hk.deps ⟨1, .data⟩ (by simp) rfl _ _ rfl rfl
      have d18 : a1.tmps.getD 18 undef = .int .i64 (q : Nat) := hk.deps ⟨2, .data⟩ (by simp) rfl _ _ rfl rfl
      simp [Region.wanted, Oper.wp, Act.eval, go_sem, d17, d18, hw, h3, h4, h5, h6]
      exact hK _ _ (by repeat (first | exact Below.refl _ _ | assumption | (refine Below.drew ?_) | (refine below_drewN' ?_ _) | (refine below_alloc' ?_ _))) HT.out
      | 4, _ =>
      obtain rfl := Option.some.inj ho
      intro a1 w1 K hk hK
      have D16 : OwnE w w1 (a1.tmps.getD 16 undef) [] ∧ ∃ g, (a1.tmps.getD 16 undef) = .slice (some ⟨g, 0, none⟩) 0 0 := hk.deps ⟨0, .data⟩ (by simp) rfl _ _ rfl rfl
      have D19 : RdE w (a1.tmps.getD 19 undef) (l.take q) := hk.deps ⟨3, .data⟩ (by simp) rfl _ _ rfl rfl
      obtain ⟨D16, g, D16'⟩ := D16
      have hbe : Below w.heap.size w w1 := below_trans HS.out (below_trans (by repeat (first | exact Below.refl _ _ | assumption | (refine Below.drew ?_) | (refine below_drewN' ?_ _) | (refine below_alloc' ?_ _))) hk.ext)
      obtain ⟨v', w', hrun, r1, r2⟩ := run_append_E0 w w1 _ _ _ g D16' D16 (D19.src hbe) hbe (by have := HN.out; rw [List.length_take]; omega) 26
      split
      · exact wp_append_run (s := .tmp 16) (x := .tmp 19) rfl hrun (hK _ _ r2 r1)
      · rename_i hw0; simp [Region.wanted] at hw0
      | 5, _ =>
      obtain rfl := Option.some.inj ho
      intro a1 w1 K hk hK
      have e0 : a1.tmps.getD 0 undef = .slice (some ⟨bk, ofs, none⟩) l.length c := hk.same 0 (by simp)
      simp [Region.wanted, Oper.wp, Act.eval, go_sem, e0, hw, h3, h4, h5, h6]
      exact hK _ _ (Below.refl _ _) rfl
      | 6, _ =>
      obtain rfl := Option.some.inj ho
      intro a1 w1 K hk hK
      have e5 : a1.tmps.getD 5 undef = .int .i64 (q : Nat) := hk.same 5 (by simp)
      simp [Region.wanted, Oper.wp, Act.eval, go_sem, e5, hw, h3, h4, h5, h6]
      exact hK _ _ (Below.refl _ _) rfl
      | 7, _ =>
      obtain rfl := Option.some.inj ho
      intro a1 w1 K hk hK
      have d22 : a1.tmps.getD 22 undef = .int .i64 (q : Nat) := hk.deps ⟨6, .data⟩ (by simp) rfl _ _ rfl rfl
      simp [Region.wanted, Oper.wp, Act.eval, go_sem, d22, hw, h3, h4, h5, h6]
      exact hK _ _ (Below.refl _ _) rfl
      | 8, _ =>
      obtain rfl := Option.some.inj ho
      intro a1 w1 K hk hK
      have d21 : a1.tmps.getD 21 undef = .slice (some ⟨bk, ofs, none⟩) l.length c := hk.deps ⟨5, .data⟩ (by simp) rfl _ _ rfl rfl
      have d23 : a1.tmps.getD 23 undef = .int .i64 ((q + 1 : Nat) : Int) := hk.deps ⟨7, .data⟩ (by simp) rfl _ _ rfl rfl
      simp [Region.wanted, Oper.wp, Act.eval, go_sem, d21, d23, hw, h3, h4, h5, h6]
      exact hK _ _ (by repeat (first | exact Below.refl _ _ | assumption | (refine Below.drew ?_) | (refine below_drewN' ?_ _) | (refine below_alloc' ?_ _))) HU.out
    · intro vs w3 hl hb3 hv
      match vs, hl with
      | [v0, v1, v2, v3, v4, v5, v6, v7, v8], _ =>
      have q0 : OwnE w w3 v0 [] ∧ ∃ g, v0 = .slice (some ⟨g, 0, none⟩) 0 0 := hv 0 (by omega)
      obtain rfl : v1 = .slice (some ⟨bk, ofs, none⟩) l.length c := hv 1 (by omega)
      obtain rfl : v2 = .int .i64 (q : Nat) := hv 2 (by omega)
      have q3 : RdE w v3 (l.take q) := hv 3 (by omega)
      have q4 : OwnE w w3 v4 (l.take q) := hv 4 (by omega)
      obtain rfl : v5 = .slice (some ⟨bk, ofs, none⟩) l.length c := hv 5 (by omega)
      obtain rfl : v6 = .int .i64 (q : Nat) := hv 6 (by omega)
      obtain rfl : v7 = .int .i64 ((q + 1 : Nat) : Int) := hv 7 (by omega)
      have q8 : RdE w v8 (l.drop (q + 1)) := hv 8 (by omega)
      clear hv
      simp only [putAll, List.take_succ_cons, List.take_zero, List.drop_succ_cons, List.drop_zero, Act.put, List.setIfInBounds_toArray, List.set_cons_succ, List.set_cons_zero]
      refine wpList_append_E rfl (.tmp 20) (.tmp 24) rfl w (l.take q) (l.drop (q + 1)) q4 (q8.src (below_trans HS.out hb3)) (below_trans HS.out hb3) (by have := HN.out; rw [List.length_take, List.length_drop]; omega) ?_
      intro v' w' hown hbw
      go_wp2_with fail
      go_ret
      rw [HE.out]
      exact RetE.mk (hown.rd hbw) hbw

theorem EtS.del {k : Nat} {l : List En} (h : EtS k l) (p : List Nat) : EtS k (delE p l) := ⟨h.et.del p, h.k40, Nat.le_trans Od.del_length h.short⟩
set_option maxRecDepth 8000 in
set_option maxHeartbeats 1000000 in
theorem rPut_any (k : Nat) (l : List En) (p : List Nat) (x : Nat) (v vp : Value) (w : World) (hv : RdE w v l) (hp : RdU w vp (pti p)) (hl : EtS k l) (hs : PtS k p) :
    Calls Try.prog 45 #[v, vp, .int .u64 (x : Nat)] w fun e w' => RetE w (insE p x l) e w' := by
  have HD := Lib.hid (rDel_any k l p v vp w hv hp hl hs)
  have HQ := Lib.hid (fun (v : Value) (w : World) (hv : RdE w v (delE p l)) (hp : RdU w vp (pti p)) => rPlace_any k (delE p l) p v vp w hv hp (hl.del p) hs)
  have HE := Lib.hid (show insE p x l = (delE p l).take (Od.place En.key (pkey p) (delE p l)).1 ++ ⟨p, x⟩ :: (delE p l).drop (Od.place En.key (pkey p) (delE p l)).1 from (Od.ins_place (key := En.key) (x := ⟨p, x⟩) hl.et.asc).trans (by rw [List.append_assoc]; rfl))
  have HN := Lib.hid (And.intro (hl.del p).short (Od.place_le En.key (pkey p) (delE p l)))
  have HP := Lib.hid hp
  obtain ⟨A0, cc, rfl, hx0⟩ := RdU.point hp
  clear hx0
  generalize (Od.place En.key (pkey p) (delE p l)).1 = q at *
  generalize (Od.place En.key (pkey p) (delE p l)).2 = fl at *
  generalize delE p l = m at *
  clear hl hs hv hp
  go_enter Try.func45, Try.ntmps45
  go_wp2_with fail
  refine HD.out.mono ?_
  rintro e w1 ⟨v1, rfl, hv1, hb1⟩
  have HB := Lib.hid hb1
  go_wp2_with fail
  refine (HQ.out _ _ hv1 (HP.out.below HB.out)).mono ?_
  rintro e w2 ⟨rfl, hb2⟩
  have HB2 := Lib.hid (HB.out.trans (hb2.mono HB.out.size))
  have HV := Lib.hid (hv1.below hb2)
  have HP2 := Lib.hid (HP.out.below HB2.out)
  clear hb2
  obtain ⟨A, c, rfl, hcap, hx⟩ := hv1
  have h3 : q ≤ c := by have := HN.out; omega
  have h4 : (q : Int) ≤ (m.length : Int) := by have := HN.out; omega
  by_cases hc : 0 < c
  · obtain ⟨bk, ofs, rfl⟩ := hcap.2.2 hc
    clear hcap hx hc hb1
    have HT := Lib.hid (HV.out.take q HN.out.2)
    have HU := Lib.hid (HV.out.drop' q HN.out.2)
    by_cases hcq : c = q
    · obtain rfl : q = c := hcq.symm
      rw [if_pos rfl, Nat.sub_self] at HU
      go_wp2_with ((at_builtin; refine wpList_append_E rfl (.tmp 19) (.tmp 22) rfl w2 [] (m.take q) ?_ ?_ ?_ ?_ ?_))
      · exact OwnE.lit (Nat.le_refl _) rfl
      · exact HT.out.src (by repeat (first | exact Below.refl _ _ | assumption | (refine Below.drew ?_) | (refine below_drewN' ?_ _) | (refine below_alloc' ?_ _)))
      · exact (by repeat (first | exact Below.refl _ _ | assumption | (refine Below.drew ?_) | (refine below_drewN' ?_ _) | (refine below_alloc' ?_ _)))
      · have := HN.out; simp; try omega
      intro v3 w3 hown3 hb3
      have HB3 := Lib.hid hb3
      clear hb3
      go_wp2_with ((at_builtin; refine wpList_append_E rfl (.tmp 23) (.tmp 27) rfl w2 (m.take q) [⟨p, x⟩] ?_ ?_ ?_ ?_ ?_))
      · exact hown3.alloc _
      · exact SrcE.one (by simp [go_sem]) HP2.out (by simp [go_sem])
      · have h := HB3.out; exact (by repeat (first | exact Below.refl _ _ | assumption | (refine Below.drew ?_) | (refine below_drewN' ?_ _) | (refine below_alloc' ?_ _)))
      · have := HN.out; simp; try omega
      intro v4 w4 hown4 hb4
      have HB4 := Lib.hid hb4
      clear hb4
      go_wp2_with ((at_builtin; refine wpList_append_E rfl (.tmp 29) (.tmp 32) rfl w2 (m.take q ++ [⟨p, x⟩]) (m.drop q) ?_ ?_ ?_ ?_ ?_))
      · exact hown4
      · exact HU.out.src HB4.out
      · exact HB4.out
      · have := HN.out; simp; try omega
      intro v5 w5 hown5 hb5
      go_wp2_with fail
      go_ret
      rw [HE.out]
      exact RetE.mk (by simpa using hown5.rd hb5) (HB2.out.trans (hb5.mono HB2.out.size))
    · rw [if_neg hcq] at HU
      go_wp2_with ((at_builtin; refine wpList_append_E rfl (.tmp 19) (.tmp 22) rfl w2 [] (m.take q) ?_ ?_ ?_ ?_ ?_))
      · exact OwnE.lit (Nat.le_refl _) rfl
      · exact HT.out.src (by repeat (first | exact Below.refl _ _ | assumption | (refine Below.drew ?_) | (refine below_drewN' ?_ _) | (refine below_alloc' ?_ _)))
      · exact (by repeat (first | exact Below.refl _ _ | assumption | (refine Below.drew ?_) | (refine below_drewN' ?_ _) | (refine below_alloc' ?_ _)))
      · have := HN.out; simp; try omega
      intro v3 w3 hown3 hb3
      have HB3 := Lib.hid hb3
      clear hb3
      go_wp2_with ((at_builtin; refine wpList_append_E rfl (.tmp 23) (.tmp 27) rfl w2 (m.take q) [⟨p, x⟩] ?_ ?_ ?_ ?_ ?_))
      · exact hown3.alloc _
      · exact SrcE.one (by simp [go_sem]) HP2.out (by simp [go_sem])
      · have h := HB3.out; exact (by repeat (first | exact Below.refl _ _ | assumption | (refine Below.drew ?_) | (refine below_drewN' ?_ _) | (refine below_alloc' ?_ _)))
      · have := HN.out; simp; try omega
      intro v4 w4 hown4 hb4
      have HB4 := Lib.hid hb4
      clear hb4
      go_wp2_with ((at_builtin; refine wpList_append_E rfl (.tmp 29) (.tmp 32) rfl w2 (m.take q ++ [⟨p, x⟩]) (m.drop q) ?_ ?_ ?_ ?_ ?_))
      · exact hown4
      · exact HU.out.src HB4.out
      · exact HB4.out
      · have := HN.out; simp; try omega
      intro v5 w5 hown5 hb5
      go_wp2_with fail
      go_ret
      rw [HE.out]
      exact RetE.mk (by simpa using hown5.rd hb5) (HB2.out.trans (hb5.mono HB2.out.size))
  · obtain rfl : c = 0 := by omega
    obtain rfl : m = [] := List.eq_nil_of_length_eq_zero (by omega)
    obtain rfl : q = 0 := by omega
    clear hcap hx hc hb1 h3 h4
    simp only [List.length_nil] at *
    go_wp2_with ((at_builtin; refine wpList_append_E rfl (.tmp 19) (.tmp 22) rfl w2 [] (([] : List En)) ?_ ?_ ?_ ?_ ?_))
    · exact OwnE.lit (Nat.le_refl _) rfl
    · exact (RdE.nil w2 A 0 (by simp [maxLen]) (fun h => absurd h (by omega))).src (by repeat (first | exact Below.refl _ _ | assumption | (refine Below.drew ?_) | (refine below_drewN' ?_ _) | (refine below_alloc' ?_ _)))
    · exact (by repeat (first | exact Below.refl _ _ | assumption | (refine Below.drew ?_) | (refine below_drewN' ?_ _) | (refine below_alloc' ?_ _)))
    · have := HN.out; simp; try omega
    intro v3 w3 hown3 hb3
    have HB3 := Lib.hid hb3
    clear hb3
    go_wp2_with ((at_builtin; refine wpList_append_E rfl (.tmp 23) (.tmp 27) rfl w2 (([] : List En)) [⟨p, x⟩] ?_ ?_ ?_ ?_ ?_))
    · exact hown3.alloc _
    · exact SrcE.one (by simp [go_sem]) HP2.out (by simp [go_sem])
    · have h := HB3.out; exact (by repeat (first | exact Below.refl _ _ | assumption | (refine Below.drew ?_) | (refine below_drewN' ?_ _) | (refine below_alloc' ?_ _)))
    · have := HN.out; simp; try omega
    intro v4 w4 hown4 hb4
    have HB4 := Lib.hid hb4
    clear hb4
    go_wp2_with ((at_builtin; refine wpList_append_E rfl (.tmp 29) (.tmp 32) rfl w2 (([] : List En) ++ [⟨p, x⟩]) (([] : List En)) ?_ ?_ ?_ ?_ ?_))
    · exact hown4
    · exact (RdE.nil w2 A 0 (by simp [maxLen]) (fun h => absurd h (by omega))).src HB4.out
    · exact HB4.out
    · have := HN.out; simp; try omega
    intro v5 w5 hown5 hb5
    go_wp2_with fail
    go_ret
    rw [HE.out]
    exact RetE.mk (by simpa using hown5.rd hb5) (HB2.out.trans (hb5.mono HB2.out.size))
end Go.Proofs.Ytjokcagggmjgmaa
/-! TrF -/
namespace Go
theorem getD_bool {t : Array Value} {d : Nat} {b : Bool} (h : t.getD d undef = .bool b) : t[d]? = some (.bool b) := by
  rw [Array.getD_eq_getD_getElem?] at h
  cases hx : t[d]? with
  | none => rw [hx] at h; cases h
  | some v => rw [hx] at h; simp only [Option.getD_some] at h; rw [h]
end Go
namespace Go.Proofs.Ytjokcagggmjgmaa
open Go.RowKit
set_option linter.unusedVariables false
set_option linter.unusedSimpArgs false

/-- an act -/
structure Ac where
  del : Bool
  p : List Nat
  v : Nat
deriving Inhabited
/-- what an act makes of a list -/
def stepL (k : Nat) (l : List En) (a : Ac) : List En := if a.p.length = k then (if a.del then delE a.p l else insE a.p a.v l) else l
def Ac.Ok (a : Ac) : Prop := a.p.length ≤ 40 ∧ (∀ c ∈ a.p, c < 2 ^ 64) ∧ a.v < 2 ^ 64
theorem Et.step {k : Nat} {l : List En} (h : Et k l) (a : Ac) (ha : a.Ok) : Et k (stepL k l a) := by
  unfold stepL
  split
  · split
    · exact h.del _
    · exact h.ins _ (by assumption) ha.2.1
  · exact h
theorem step_len (k : Nat) (l : List En) (a : Ac) : (stepL k l a).length ≤ l.length + 1 := by
  unfold stepL
  split
  · split
    · exact Nat.le_trans Od.del_length (Nat.le_succ _)
    · exact Od.ins_length
  · omega
theorem del_absent {l : List En} {p : List Nat} (h : getE l p = none) : delE p l = l := by
  unfold getE at h
  have h' : Od.look En.key l (pkey p) = none := by
    cases e : Od.look En.key l (pkey p) with
    | none => rfl
    | some x => rw [e] at h; cases h
  have h2 := Od.look_none (key := En.key) h'
  clear h h'
  unfold delE
  induction l with
  | nil => rfl
  | cons x l ih => unfold Od.del; rw [if_neg (h2 x (by simp))]; rw [ih fun y hy => h2 y (by simp [hy])]
set_option maxRecDepth 100000
theorem treeInfo : ∃ j, Try.prog.info? 114 = some j ∧ j.size ≠ 0 := by
  have h : (Try.prog.info? 114).map (fun i => i.size) = some 2 := by kernel_rfl
  cases e : Try.prog.info? 114 with
  | none => rw [e] at h; cases h
  | some j => 
    rw [e] at h
    have h : j.size = 2 := by simpa using h
    exact ⟨j, rfl, by omega⟩
theorem treeUnder : Try.prog.underlying 25 = some (.pointer 114) := by kernel_rfl
theorem tree_same (w : World) (g : Nat) : (binOp .eql 25 (.pointer (some ⟨g, 0, none⟩)) (.pointer (some ⟨g, 0, none⟩))).run Try.prog w = .ok (.bool true) w := by
  obtain ⟨j, hj, _⟩ := treeInfo
  exact run_eql_ptr_same w _ treeUnder hj
theorem tree_other {w : World} {g t k k' : Nat} {l l' : List En} (hg : TrR w g k l) (ht : TrR w t k' l') (hne : g ≠ t) : (binOp .eql 25 (.pointer (some ⟨g, 0, none⟩)) (.pointer (some ⟨t, 0, none⟩))).run Try.prog w = .ok (.bool false) w := by
  obtain ⟨c1, h1⟩ := hg.blk
  obtain ⟨c2, h2⟩ := ht.blk
  obtain ⟨j, hj, hsz⟩ := treeInfo
  exact run_eql_ptr_other w treeUnder hj hsz (by intro h; injection h with h; exact hne h) h1 h2
/-- Done -/
def DoneP (W : World) (k : Nat) (l : List En) (e : Ending) (w' : World) : Prop := ∃ t vin, e = .returned (.tuple #[.pointer (some ⟨t, 0, none⟩), vin, .bool true]) ∧ TrR w' t k l ∧ RdE w' vin l ∧ Below W.heap.size W w'
set_option maxHeartbeats 4000000 in
theorem done_del (w : World) (t k : Nat) (p : List Nat) (v : Nat) (l : List En) (vin vp : Value) (ht : TrR w t k l) (hin : RdE w vin l) (hl : EtS k l) (hp : RdU w vp (pti p)) (ho : p.length ≤ 40 ∧ (∀ c ∈ p, c < 2 ^ 64) ∧ v < 2 ^ 64) :
    Calls Try.prog 19 #[.pointer (some ⟨t, 0, none⟩), vin, .agg #[.bool true, vp, .int .u64 (v : Nat)]] w fun e w' => DoneP w k (stepL k l ⟨true, p, v⟩) e w' := by
  have HTK := Lib.hid (fun w1 (hb : Below w.heap.size w w1) => tk_any w1 t k (ht.bel hb).c0)
  have HT := Lib.hid (And.intro ht hin)
  have HV := Lib.hid hp
  have HD := Lib.hid ho
  have HL := Lib.hid hl
  obtain ⟨A2, c2, rfl, _⟩ := RdU.point hp
  obtain ⟨AI, cI, rfl, _⟩ := hin
  by_cases hk : p.length = k
  · have hps : PtS k p := ⟨hk, ho.2.1⟩
    have HRG := Lib.hid (fun w1 (hb : Below w.heap.size w w1) => rGet_any k l p _ _ w1 (HT.out.2.below hb) (HV.out.below hb) hl hps)
    have HRD := Lib.hid (fun w1 (hb : Below w.heap.size w w1) => rDel_any k l p _ _ w1 (HT.out.2.below hb) (HV.out.below hb) hl hps)
    have HTD := Lib.hid (fun w1 (hb : Below w.heap.size w w1) => tdel_any w1 t k p l _ (ht.bel hb) (HV.out.below hb) hk ho.2.1)
    have HST := Lib.hid (show stepL k l ⟨true, p, v⟩ = delE p l by unfold stepL; rw [if_pos hk]; rfl)
    have hn : ((p.length : Int) != (k : Int)) = false := by simp [hk]
    have HK := Lib.hid hk
    clear ht hp ho hl hps hk
    go_enter Try.func19, Try.ntmps19
    go_wp2_with fail
    refine (HTK.out _ (by repeat (first | exact Below.refl _ _ | (refine Below.drew ?_) | (refine below_drewN' ?_ _) | (refine below_alloc' ?_ _) | (refine Below.setCell ?_ (by first | exact Nat.le_refl _ | (simp; done) | (simp; omega)) _)))).mono ?_
    rintro e w1 ⟨rfl, hw⟩
    obtain rfl := hw.symm
    go_wp2_with fail
    refine (HTD.out _ (by repeat (first | exact Below.refl _ _ | (refine Below.drew ?_) | (refine below_drewN' ?_ _) | (refine below_alloc' ?_ _) | (refine Below.setCell ?_ (by first | exact Nat.le_refl _ | (simp; done) | (simp; omega)) _)))).mono ?_
    rintro e w1 ⟨hb, hc⟩
    have f1 : w1.cell? ⟨w.heap.size, 1, none⟩ = some (.slice A2 p.length c2) := Below.keeps hb _ _ (by simp [go_sem])
    have hBl := World.block_lt_of_cell? w1 _ f1
    have HB := Lib.hid (show Below w.heap.size w w1 from below_trans (by repeat (first | exact Below.refl _ _ | (refine Below.drew ?_) | (refine below_drewN' ?_ _) | (refine below_alloc' ?_ _) | (refine Below.setCell ?_ (by first | exact Nat.le_refl _ | (simp; done) | (simp; omega)) _))) hb)
    rcases hc with ⟨hg, rfl⟩ | ⟨x, g, hg, rfl, htd, hgs⟩
    · have HG := Lib.hid hg
      clear hb hg
      go_wp2_with fail
      refine (HRG.out _ (by repeat (first | exact HB.out | (refine Below.drew ?_) | (refine below_drewN' ?_ _) | (refine below_alloc' ?_ _) | (refine Below.setCell ?_ (by first | exact Nat.le_refl _ | (have := HB.out.size; simp; omega) | (have := HB.out.size; omega)) _)))).mono ?_
      rintro e w2 ⟨rfl, hb2⟩
      rw [HG.out]
      have HB2 := Lib.hid (HB.out.trans (hb2.mono HB.out.size))
      clear hb2
      go_wp2_with fail
      ((try simp only [Exit.inBlock, Exit.then]); refine bodyPost_ret (results_tmp3 rfl _ _ _) rfl ?_)
      rw [HST.out, del_absent HG.out]
      exact ⟨t, _, rfl, HT.out.1.bel (by repeat (first | exact HB2.out | (refine Below.drew ?_) | (refine below_drewN' ?_ _) | (refine below_alloc' ?_ _) | (refine Below.setCell ?_ (by first | exact Nat.le_refl _ | (have := HB2.out.size; simp; omega) | (have := HB2.out.size; omega)) _))), HT.out.2.below (by repeat (first | exact HB2.out | (refine Below.drew ?_) | (refine below_drewN' ?_ _) | (refine below_alloc' ?_ _) | (refine Below.setCell ?_ (by first | exact Nat.le_refl _ | (have := HB2.out.size; simp; omega) | (have := HB2.out.size; omega)) _))), (by repeat (first | exact HB2.out | (refine Below.drew ?_) | (refine below_drewN' ?_ _) | (refine below_alloc' ?_ _) | (refine Below.setCell ?_ (by first | exact Nat.le_refl _ | (have := HB2.out.size; simp; omega) | (have := HB2.out.size; omega)) _)))⟩
    · have HG := Lib.hid hg
      have HN := Lib.hid htd
      clear hb hg htd hgs
      go_wp2_with fail
      refine (HRG.out _ (by repeat (first | exact HB.out | (refine Below.drew ?_) | (refine below_drewN' ?_ _) | (refine below_alloc' ?_ _) | (refine Below.setCell ?_ (by first | exact Nat.le_refl _ | (have := HB.out.size; simp; omega) | (have := HB.out.size; omega)) _)))).mono ?_
      rintro e w2 ⟨rfl, hb2⟩
      rw [HG.out]
      have f3 := Below.keeps hb2 _ _ f1
      have HB2 := Lib.hid (HB.out.trans (hb2.mono HB.out.size))
      have HN2 := Lib.hid (HN.out.bel hb2)
      clear hb2 f1
      go_wp2_with fail
      refine (HRD.out _ (by repeat (first | exact HB2.out | (refine Below.drew ?_) | (refine below_drewN' ?_ _) | (refine below_alloc' ?_ _) | (refine Below.setCell ?_ (by first | exact Nat.le_refl _ | (have := HB2.out.size; simp; omega) | (have := HB2.out.size; omega)) _)))).mono ?_
      rintro e w3 ⟨v3, rfl, hin3, hb3⟩
      have HB3 := Lib.hid (HB2.out.trans (hb3.mono HB2.out.size))
      have HN3 := Lib.hid (And.intro (HN2.out.bel hb3) hin3)
      clear hb3 hin3
      go_wp2_with fail
      ((try simp only [Exit.inBlock, Exit.then]); refine bodyPost_ret (results_tmp3 rfl _ _ _) rfl ?_)
      rw [HST.out]
      exact ⟨g, _, rfl, HN3.out.1.bel (Below.refl _ _), HN3.out.2, HB3.out⟩
  · have HTD := Lib.hid (fun w1 (hb : Below w.heap.size w w1) => tdel_dim w1 t k p.length c2 A2 l (ht.bel hb) hk)
    have HST := Lib.hid (show stepL k l ⟨true, p, v⟩ = l by unfold stepL; rw [if_neg hk])
    have hn : ((p.length : Int) != (k : Int)) = true := by simp; omega
    have hn2 : ¬ (p.length : Int) = (k : Int) := by omega
    clear ht hp ho hl hk
    go_enter Try.func19, Try.ntmps19
    go_wp2_with fail
    refine (HTK.out _ (by repeat (first | exact Below.refl _ _ | (refine Below.drew ?_) | (refine below_drewN' ?_ _) | (refine below_alloc' ?_ _) | (refine Below.setCell ?_ (by first | exact Nat.le_refl _ | (simp; done) | (simp; omega)) _)))).mono ?_
    rintro e w1 ⟨rfl, hw⟩
    obtain rfl := hw.symm
    go_wp2_with fail
    refine (HTD.out _ (by repeat (first | exact Below.refl _ _ | (refine Below.drew ?_) | (refine below_drewN' ?_ _) | (refine below_alloc' ?_ _) | (refine Below.setCell ?_ (by first | exact Nat.le_refl _ | (simp; done) | (simp; omega)) _)))).mono ?_
    rintro e w1 ⟨rfl, hw⟩
    obtain rfl := hw.symm
    go_wp2_with fail
    ((try simp only [Exit.inBlock, Exit.then]); refine bodyPost_ret (results_tmp3 rfl _ _ _) rfl ?_)
    rw [HST.out]
    exact ⟨t, _, rfl, HT.out.1.bel (by repeat (first | exact Below.refl _ _ | (refine Below.drew ?_) | (refine below_drewN' ?_ _) | (refine below_alloc' ?_ _) | (refine Below.setCell ?_ (by first | exact Nat.le_refl _ | (simp; done) | (simp; omega)) _))), HT.out.2.below (by repeat (first | exact Below.refl _ _ | (refine Below.drew ?_) | (refine below_drewN' ?_ _) | (refine below_alloc' ?_ _) | (refine Below.setCell ?_ (by first | exact Nat.le_refl _ | (simp; done) | (simp; omega)) _))), (by repeat (first | exact Below.refl _ _ | (refine Below.drew ?_) | (refine below_drewN' ?_ _) | (refine below_alloc' ?_ _) | (refine Below.setCell ?_ (by first | exact Nat.le_refl _ | (simp; done) | (simp; omega)) _)))⟩
set_option maxHeartbeats 8000000 in
theorem done_put (w : World) (t k : Nat) (p : List Nat) (v : Nat) (l : List En) (vin vp : Value) (ht : TrR w t k l) (hin : RdE w vin l) (hl : EtS k l) (hp : RdU w vp (pti p)) (ho : p.length ≤ 40 ∧ (∀ c ∈ p, c < 2 ^ 64) ∧ v < 2 ^ 64) :
    Calls Try.prog 19 #[.pointer (some ⟨t, 0, none⟩), vin, .agg #[.bool false, vp, .int .u64 (v : Nat)]] w fun e w' => DoneP w k (stepL k l ⟨false, p, v⟩) e w' := by
  have HTK := Lib.hid (fun w1 (hb : Below w.heap.size w w1) => tk_any w1 t k (ht.bel hb).c0)
  have HT := Lib.hid (And.intro ht hin)
  have HV := Lib.hid hp
  have HD := Lib.hid ho
  have HL := Lib.hid hl
  have htl : t < w.heap.size := World.block_lt_of_cell? w _ ht.c0
  obtain ⟨A2, c2, rfl, _⟩ := RdU.point hp
  obtain ⟨AI, cI, rfl, _⟩ := hin
  by_cases hk : p.length = k
  · have hps : PtS k p := ⟨hk, ho.2.1⟩
    have HRG := Lib.hid (fun w1 (hb : Below w.heap.size w w1) => rGet_any k l p _ _ w1 (HT.out.2.below hb) (HV.out.below hb) hl hps)
    have HRP := Lib.hid (fun w1 (hb : Below w.heap.size w w1) => rPut_any k l p v _ _ w1 (HT.out.2.below hb) (HV.out.below hb) hl hps)
    have HTP := Lib.hid (fun w1 (hb : Below w.heap.size w w1) => tput_any w1 t k v p l _ (ht.bel hb) (HV.out.below hb) hk ho.2.1 ho.2.2)
    have HST := Lib.hid (show stepL k l ⟨false, p, v⟩ = insE p v l by unfold stepL; rw [if_pos hk]; rfl)
    have hn : ((p.length : Int) != (k : Int)) = false := by simp [hk]
    have HK := Lib.hid hk
    clear ht hp ho hl hps hk
    go_enter Try.func19, Try.ntmps19
    go_wp2_with fail
    refine (HTK.out _ (by repeat (first | exact Below.refl _ _ | (refine Below.drew ?_) | (refine below_drewN' ?_ _) | (refine below_alloc' ?_ _) | (refine Below.setCell ?_ (by first | exact Nat.le_refl _ | (simp; done) | (simp; omega)) _)))).mono ?_
    rintro e w1 ⟨rfl, hw⟩
    obtain rfl := hw.symm
    go_wp2_with fail
    refine (HTP.out _ (by repeat (first | exact Below.refl _ _ | (refine Below.drew ?_) | (refine below_drewN' ?_ _) | (refine below_alloc' ?_ _) | (refine Below.setCell ?_ (by first | exact Nat.le_refl _ | (simp; done) | (simp; omega)) _)))).mono ?_
    rintro e w1 ⟨g, rfl, htg, hb, hsame, hother⟩
    have f1 : w1.cell? ⟨w.heap.size, 1, none⟩ = some (.slice A2 p.length c2) := Below.keeps hb _ _ (by simp [go_sem])
    have f2 : w1.cell? ⟨w.heap.size, 2, none⟩ = some (.int .u64 (v : Nat)) := Below.keeps hb _ _ (by simp [go_sem])
    have hBl : w.heap.size < w1.heap.size := World.block_lt_of_cell? w1 _ f1
    have HB := Lib.hid (show Below w.heap.size w w1 from below_trans (by repeat (first | exact Below.refl _ _ | (refine Below.drew ?_) | (refine below_drewN' ?_ _) | (refine below_alloc' ?_ _) | (refine Below.setCell ?_ (by first | exact Nat.le_refl _ | (simp; done) | (simp; omega)) _))) hb)
    have hother' : getE l p ≠ some v → w.heap.size ≤ g := fun h => Nat.le_trans (by simp) (hother h)
    have HG := Lib.hid (And.intro hsame hother')
    have HN := Lib.hid htg
    have HWS := Lib.hid htl
    clear hsame hother hother' htg hb
    go_wp2_with fail
    refine (HRG.out _ (by repeat (first | exact HB.out | (refine Below.drew ?_) | (refine below_drewN' ?_ _) | (refine below_alloc' ?_ _) | (refine Below.setCell ?_ (by first | exact Nat.le_refl _ | (have := HB.out.size; simp; omega) | (have := HB.out.size; omega)) _)))).mono ?_
    rintro e w2 ⟨rfl, hb2⟩
    have HN2 := Lib.hid (And.intro (HN.out.bel hb2) (HB.out.trans (hb2.mono HB.out.size)))
    replace f1 := Below.keeps hb2 _ _ f1
    replace f2 := Below.keeps hb2 _ _ f2
    replace hBl := Nat.lt_of_lt_of_le hBl hb2.size
    clear hb2
    cases hget : getE l p with
    | none =>
      have hgt : ¬ g = t := by have := HG.out.2 (by rw [hget]; simp); omega
      have h1 := hgt
      have HEQ := Lib.hid (fun w3 (hb : Below w2.heap.size w2 w3) => tree_other (HN2.out.1.bel hb) ((HT.out.1.bel HN2.out.2).bel hb) hgt)
      have HGT := Lib.hid hget
      clear hget
      go_wp2_with fail
      refine wp_region_vals 28 [fun z9 _ => z9 = .pointer (some ⟨g, 0, none⟩),
        fun z9 _ => z9 = .slice AI l.length cI,
        fun z9 _ => z9 = .pointer (some ⟨w.heap.size, 1, none⟩),
        fun z9 _ => z9 = .slice A2 p.length c2,
        fun z9 _ => z9 = .pointer (some ⟨w.heap.size, 2, none⟩),
        fun z9 _ => z9 = .int .u64 (v : Nat),
        fun v9 w9 => RdE w9 v9 (insE p v l),
        fun z9 _ => z9 = .int .i64 0,
        fun z9 _ => z9 = .bool true,
        fun z9 _ => z9 = .bool true,
        fun z9 _ => z9 = .pointer (some ⟨g, 0, none⟩),
        fun z9 _ => z9 = .bool true,
        fun z9 _ => z9 = .bool true,
        fun z9 _ => z9 = .bool true,
        fun z9 _ => z9 = .bool false,
        fun z9 _ => z9 = .bool false,
        fun z9 _ => z9 = undef,
        fun z9 _ => z9 = undef,
        fun z9 _ => z9 = undef,
        fun z9 _ => z9 = undef,
        fun z9 _ => z9 = .bool false,
        fun z9 _ => z9 = .pointer (some ⟨g, 0, none⟩),
        fun z9 _ => z9 = .pointer (some ⟨t, 0, none⟩),
        fun z9 _ => z9 = .bool false,
        fun z9 _ => z9 = .bool true,
        fun z9 _ => z9 = .bool true,
        fun z9 _ => z9 = .pointer (some ⟨g, 0, none⟩),
        fun v9 w9 => RdE w9 v9 (insE p v l)]
        (by kernel_rfl) (by kernel_rfl) (by kernel_rfl) (by kernel_rfl) ?_ ?_ ?_
      · intro V hV v w1 w2 h hb
        simp only [List.mem_cons, List.not_mem_nil, or_false] at hV
        rcases hV with rfl | rfl | rfl | rfl | rfl | rfl | rfl | rfl | rfl | rfl | rfl | rfl | rfl | rfl | rfl | rfl | rfl | rfl | rfl | rfl | rfl | rfl | rfl | rfl | rfl | rfl | rfl | rfl
        all_goals first | exact h | (exact RdE.below h hb)
      · intro iq oq hiq hoq
        match iq, hiq with
        | 0, _ =>
        obtain rfl := Option.some.inj hoq
        intro a1 w1 K hk hK
        have e14 : a1.tmps.getD 14 undef = .pointer (some ⟨g, 0, none⟩) := hk.same 14 (by simp)
        simp [Region.wanted, Oper.wp, Act.eval, go_sem, e14, hgt, h1, f1, f2, hBl]
        exact hK _ _ (Below.refl _ _) rfl
        | 1, _ =>
        obtain rfl := Option.some.inj hoq
        intro a1 w1 K hk hK
        have e1 : a1.tmps.getD 1 undef = .slice AI l.length cI := hk.same 1 (by simp)
        simp [Region.wanted, Oper.wp, Act.eval, go_sem, e1, hgt, h1, f1, f2, hBl]
        exact hK _ _ (Below.refl _ _) rfl
        | 2, _ =>
        obtain rfl := Option.some.inj hoq
        intro a1 w1 K hk hK
        have e5 : a1.tmps.getD 5 undef = .pointer (some ⟨w.heap.size, 0, none⟩) := hk.same 5 (by simp)
        simp [Region.wanted, Oper.wp, Act.eval, go_sem, e5, hgt, h1, f1, f2, hBl]
        exact hK _ _ (Below.refl _ _) rfl
        | 3, _ =>
        obtain rfl := Option.some.inj hoq
        intro a1 w1 K hk hK
        have d101 : a1.tmps.getD 101 undef = .pointer (some ⟨w.heap.size, 1, none⟩) := hk.deps ⟨2, .data⟩ (by simp) rfl _ _ rfl rfl
        have c0 : w1.cell? ⟨w.heap.size, 1, none⟩ = some (.slice A2 p.length c2) := Below.keeps hk.ext _ _ (by simp [go_sem, hgt, h1, f1, f2, hBl])
        have c1 : w1.cell? ⟨w.heap.size, 2, none⟩ = some (.int .u64 (v : Nat)) := Below.keeps hk.ext _ _ (by simp [go_sem, hgt, h1, f1, f2, hBl])
        simp [Region.wanted, Oper.wp, Act.eval, go_sem, d101, c0, c1, hgt, h1, f1, f2, hBl]
        exact hK _ _ (Below.refl _ _) rfl
        | 4, _ =>
        obtain rfl := Option.some.inj hoq
        intro a1 w1 K hk hK
        have e5 : a1.tmps.getD 5 undef = .pointer (some ⟨w.heap.size, 0, none⟩) := hk.same 5 (by simp)
        simp [Region.wanted, Oper.wp, Act.eval, go_sem, e5, hgt, h1, f1, f2, hBl]
        exact hK _ _ (Below.refl _ _) rfl
        | 5, _ =>
        obtain rfl := Option.some.inj hoq
        intro a1 w1 K hk hK
        have d103 : a1.tmps.getD 103 undef = .pointer (some ⟨w.heap.size, 2, none⟩) := hk.deps ⟨4, .data⟩ (by simp) rfl _ _ rfl rfl
        have c0 : w1.cell? ⟨w.heap.size, 1, none⟩ = some (.slice A2 p.length c2) := Below.keeps hk.ext _ _ (by simp [go_sem, hgt, h1, f1, f2, hBl])
        have c1 : w1.cell? ⟨w.heap.size, 2, none⟩ = some (.int .u64 (v : Nat)) := Below.keeps hk.ext _ _ (by simp [go_sem, hgt, h1, f1, f2, hBl])
        simp [Region.wanted, Oper.wp, Act.eval, go_sem, d103, c0, c1, hgt, h1, f1, f2, hBl]
        exact hK _ _ (Below.refl _ _) rfl
        | 6, _ =>
        obtain rfl := Option.some.inj hoq
        intro a1 w1 K hk hK
        have d100 : a1.tmps.getD 100 undef = .slice AI l.length cI := hk.deps ⟨1, .data⟩ (by simp) rfl _ _ rfl rfl
        have d102 : a1.tmps.getD 102 undef = .slice A2 p.length c2 := hk.deps ⟨3, .data⟩ (by simp) rfl _ _ rfl rfl
        have d104 : a1.tmps.getD 104 undef = .int .u64 (v : Nat) := hk.deps ⟨5, .data⟩ (by simp) rfl _ _ rfl rfl
        simp [Region.wanted, Oper.wp, Act.eval, go_sem, d100, d102, d104, hgt, h1, f1, f2, hBl]
        refine (HRP.out _ (HN2.out.2.trans ((show Below w2.heap.size w2 _ from below_trans (by repeat (first | exact Below.refl _ _ | (refine Below.drew ?_) | (refine below_drewN' ?_ _) | (refine below_alloc' ?_ _) | (refine Below.setCell ?_ (by first | exact Nat.le_refl _ | (simp; done) | (simp; omega)) _))) hk.ext).mono HN2.out.2.size))).mono ?_
        rintro e w9 ⟨v9, rfl, h9, hb9⟩
        exact hK _ _ hb9 h9
        | 7, _ =>
        obtain rfl := Option.some.inj hoq
        intro a1 w1 K hk hK
        have e15 : a1.tmps.getD 15 undef = .int .i64 0 := hk.same 15 (by simp)
        simp [Region.wanted, Oper.wp, Act.eval, go_sem, e15, hgt, h1, f1, f2, hBl]
        exact hK _ _ (Below.refl _ _) rfl
        | 8, _ =>
        obtain rfl := Option.some.inj hoq
        intro a1 w1 K hk hK
        have d106 : a1.tmps.getD 106 undef = .int .i64 0 := hk.deps ⟨7, .data⟩ (by simp) rfl _ _ rfl rfl
        simp [Region.wanted, Oper.wp, Act.eval, go_sem, d106, hgt, h1, f1, f2, hBl]
        exact hK _ _ (Below.refl _ _) rfl
        | 9, _ =>
        obtain rfl := Option.some.inj hoq
        intro a1 w1 K hk hK
        have d107 : a1.tmps.getD 107 undef = .bool true := hk.deps ⟨8, .data⟩ (by simp) rfl _ _ rfl rfl
        simp [Region.wanted, Oper.wp, Act.eval, go_sem, d107, hgt, h1, f1, f2, hBl]
        exact hK _ _ (Below.refl _ _) rfl
        | 10, _ =>
        obtain rfl := Option.some.inj hoq
        intro a1 w1 K hk hK
        have e14 : a1.tmps.getD 14 undef = .pointer (some ⟨g, 0, none⟩) := hk.same 14 (by simp)
        have gd : a1.tmps[108]? = some (.bool true) := getD_bool (hk.deps ⟨9, .guard⟩ (by simp) rfl _ _ rfl rfl)
        simp [Region.wanted, Oper.wp, Act.eval, go_sem, e14, gd, yielded, hgt, h1, f1, f2, hBl]
        exact hK _ _ (Below.refl _ _) rfl
        | 11, _ =>
        obtain rfl := Option.some.inj hoq
        intro a1 w1 K hk hK
        have d109 : a1.tmps.getD 109 undef = .pointer (some ⟨g, 0, none⟩) := hk.deps ⟨10, .data⟩ (by simp) rfl _ _ rfl rfl
        have gd : a1.tmps[108]? = some (.bool true) := getD_bool (hk.deps ⟨9, .guard⟩ (by simp) rfl _ _ rfl rfl)
        simp [Region.wanted, Oper.wp, Act.eval, go_sem, d109, gd, yielded, hgt, h1, f1, f2, hBl]
        exact hK _ _ (Below.refl _ _) rfl
        | 12, _ =>
        obtain rfl := Option.some.inj hoq
        intro a1 w1 K hk hK
        have d108 : a1.tmps.getD 108 undef = .bool true := hk.deps ⟨9, .data⟩ (by simp) rfl _ _ rfl rfl
        have d110 : a1.tmps.getD 110 undef = .bool true := hk.deps ⟨11, .data⟩ (by simp) rfl _ _ rfl rfl
        simp [Region.wanted, Oper.wp, Act.eval, go_sem, d108, d110, hgt, h1, f1, f2, hBl]
        exact hK _ _ (Below.refl _ _) rfl
        | 13, _ =>
        obtain rfl := Option.some.inj hoq
        intro a1 w1 K hk hK
        have d111 : a1.tmps.getD 111 undef = .bool true := hk.deps ⟨12, .data⟩ (by simp) rfl _ _ rfl rfl
        simp [Region.wanted, Oper.wp, Act.eval, go_sem, d111, hgt, h1, f1, f2, hBl]
        exact hK _ _ (Below.refl _ _) rfl
        | 14, _ =>
        obtain rfl := Option.some.inj hoq
        intro a1 w1 K hk hK
        have e17 : a1.tmps.getD 17 undef = .bool false := hk.same 17 (by simp)
        have gd : a1.tmps[112]? = some (.bool true) := getD_bool (hk.deps ⟨13, .guard⟩ (by simp) rfl _ _ rfl rfl)
        simp [Region.wanted, Oper.wp, Act.eval, go_sem, e17, gd, yielded, hgt, h1, f1, f2, hBl]
        exact hK _ _ (Below.refl _ _) rfl
        | 15, _ =>
        obtain rfl := Option.some.inj hoq
        intro a1 w1 K hk hK
        have d113 : a1.tmps.getD 113 undef = .bool false := hk.deps ⟨14, .data⟩ (by simp) rfl _ _ rfl rfl
        have gd : a1.tmps[112]? = some (.bool true) := getD_bool (hk.deps ⟨13, .guard⟩ (by simp) rfl _ _ rfl rfl)
        simp [Region.wanted, Oper.wp, Act.eval, go_sem, d113, gd, yielded, hgt, h1, f1, f2, hBl]
        exact hK _ _ (Below.refl _ _) rfl
        | 16, _ =>
        obtain rfl := Option.some.inj hoq
        intro a1 w1 K hk hK
        have e16 : a1.tmps.getD 16 undef = .int .u64 0 := hk.same 16 (by simp)
        have gd : a1.tmps[114]? = some (.bool false) := getD_bool (hk.deps ⟨15, .guard⟩ (by simp) rfl _ _ rfl rfl)
        simp [Region.wanted, Oper.wp, Act.eval, go_sem, e16, gd, yielded, hgt, h1, f1, f2, hBl]
        exact hK _ _ (Below.refl _ _) rfl
        | 17, _ =>
        obtain rfl := Option.some.inj hoq
        intro a1 w1 K hk hK
        have e5 : a1.tmps.getD 5 undef = .pointer (some ⟨w.heap.size, 0, none⟩) := hk.same 5 (by simp)
        have gd : a1.tmps[114]? = some (.bool false) := getD_bool (hk.deps ⟨15, .guard⟩ (by simp) rfl _ _ rfl rfl)
        simp [Region.wanted, Oper.wp, Act.eval, go_sem, e5, gd, yielded, hgt, h1, f1, f2, hBl]
        exact hK _ _ (Below.refl _ _) rfl
        | 18, _ =>
        obtain rfl := Option.some.inj hoq
        intro a1 w1 K hk hK
        have d116 : a1.tmps.getD 116 undef = undef := hk.deps ⟨17, .data⟩ (by simp) rfl _ _ rfl rfl
        have gd : a1.tmps[114]? = some (.bool false) := getD_bool (hk.deps ⟨15, .guard⟩ (by simp) rfl _ _ rfl rfl)
        have c0 : w1.cell? ⟨w.heap.size, 1, none⟩ = some (.slice A2 p.length c2) := Below.keeps hk.ext _ _ (by simp [go_sem, hgt, h1, f1, f2, hBl])
        have c1 : w1.cell? ⟨w.heap.size, 2, none⟩ = some (.int .u64 (v : Nat)) := Below.keeps hk.ext _ _ (by simp [go_sem, hgt, h1, f1, f2, hBl])
        simp [Region.wanted, Oper.wp, Act.eval, go_sem, d116, gd, yielded, c0, c1, hgt, h1, f1, f2, hBl]
        exact hK _ _ (Below.refl _ _) rfl
        | 19, _ =>
        obtain rfl := Option.some.inj hoq
        intro a1 w1 K hk hK
        have d115 : a1.tmps.getD 115 undef = undef := hk.deps ⟨16, .data⟩ (by simp) rfl _ _ rfl rfl
        have d117 : a1.tmps.getD 117 undef = undef := hk.deps ⟨18, .data⟩ (by simp) rfl _ _ rfl rfl
        have gd : a1.tmps[114]? = some (.bool false) := getD_bool (hk.deps ⟨15, .guard⟩ (by simp) rfl _ _ rfl rfl)
        simp [Region.wanted, Oper.wp, Act.eval, go_sem, d115, d117, gd, yielded, hgt, h1, f1, f2, hBl]
        exact hK _ _ (Below.refl _ _) rfl
        | 20, _ =>
        obtain rfl := Option.some.inj hoq
        intro a1 w1 K hk hK
        have d114 : a1.tmps.getD 114 undef = .bool false := hk.deps ⟨15, .data⟩ (by simp) rfl _ _ rfl rfl
        have d118 : a1.tmps.getD 118 undef = undef := hk.deps ⟨19, .data⟩ (by simp) rfl _ _ rfl rfl
        have gd : a1.tmps[112]? = some (.bool true) := getD_bool (hk.deps ⟨13, .guard⟩ (by simp) rfl _ _ rfl rfl)
        simp [Region.wanted, Oper.wp, Act.eval, go_sem, d114, d118, gd, yielded, hgt, h1, f1, f2, hBl]
        exact hK _ _ (Below.refl _ _) rfl
        | 21, _ =>
        obtain rfl := Option.some.inj hoq
        intro a1 w1 K hk hK
        have e14 : a1.tmps.getD 14 undef = .pointer (some ⟨g, 0, none⟩) := hk.same 14 (by simp)
        have gd : a1.tmps[112]? = some (.bool true) := getD_bool (hk.deps ⟨13, .guard⟩ (by simp) rfl _ _ rfl rfl)
        simp [Region.wanted, Oper.wp, Act.eval, go_sem, e14, gd, yielded, hgt, h1, f1, f2, hBl]
        exact hK _ _ (Below.refl _ _) rfl
        | 22, _ =>
        obtain rfl := Option.some.inj hoq
        intro a1 w1 K hk hK
        have e0 : a1.tmps.getD 0 undef = .pointer (some ⟨t, 0, none⟩) := hk.same 0 (by simp)
        have gd : a1.tmps[112]? = some (.bool true) := getD_bool (hk.deps ⟨13, .guard⟩ (by simp) rfl _ _ rfl rfl)
        simp [Region.wanted, Oper.wp, Act.eval, go_sem, e0, gd, yielded, hgt, h1, f1, f2, hBl]
        exact hK _ _ (Below.refl _ _) rfl
        | 23, _ =>
        obtain rfl := Option.some.inj hoq
        intro a1 w1 K hk hK
        have d120 : a1.tmps.getD 120 undef = .pointer (some ⟨g, 0, none⟩) := hk.deps ⟨21, .data⟩ (by simp) rfl _ _ rfl rfl
        have d121 : a1.tmps.getD 121 undef = .pointer (some ⟨t, 0, none⟩) := hk.deps ⟨22, .data⟩ (by simp) rfl _ _ rfl rfl
        have gd : a1.tmps[112]? = some (.bool true) := getD_bool (hk.deps ⟨13, .guard⟩ (by simp) rfl _ _ rfl rfl)
        simp [Region.wanted, Oper.wp, Act.eval, go_sem, d120, d121, gd, yielded, hgt, h1, f1, f2, hBl]
        rw [HEQ.out w1 (below_trans (by repeat (first | exact Below.refl _ _ | (refine Below.drew ?_) | (refine below_drewN' ?_ _) | (refine below_alloc' ?_ _) | (refine Below.setCell ?_ (by first | exact Nat.le_refl _ | (simp; done) | (simp; omega)) _))) hk.ext)]
        exact hK _ _ (Below.refl _ _) rfl
        | 24, _ =>
        obtain rfl := Option.some.inj hoq
        intro a1 w1 K hk hK
        have d119 : a1.tmps.getD 119 undef = .bool false := hk.deps ⟨20, .data⟩ (by simp) rfl _ _ rfl rfl
        have d122 : a1.tmps.getD 122 undef = .bool false := hk.deps ⟨23, .data⟩ (by simp) rfl _ _ rfl rfl
        have gd : a1.tmps[112]? = some (.bool true) := getD_bool (hk.deps ⟨13, .guard⟩ (by simp) rfl _ _ rfl rfl)
        simp [Region.wanted, Oper.wp, Act.eval, go_sem, d119, d122, gd, yielded, hgt, h1, f1, f2, hBl]
        exact hK _ _ (Below.refl _ _) rfl
        | 25, _ =>
        obtain rfl := Option.some.inj hoq
        intro a1 w1 K hk hK
        have d112 : a1.tmps.getD 112 undef = .bool true := hk.deps ⟨13, .data⟩ (by simp) rfl _ _ rfl rfl
        have d123 : a1.tmps.getD 123 undef = .bool true := hk.deps ⟨24, .data⟩ (by simp) rfl _ _ rfl rfl
        simp [Region.wanted, Oper.wp, Act.eval, go_sem, d112, d123, hgt, h1, f1, f2, hBl]
        exact hK _ _ (Below.refl _ _) rfl
        | 26, _ =>
        obtain rfl := Option.some.inj hoq
        intro a1 w1 K hk hK
        have d99 : a1.tmps.getD 99 undef = .pointer (some ⟨g, 0, none⟩) := hk.deps ⟨0, .data⟩ (by simp) rfl _ _ rfl rfl
        simp [Region.wanted, Oper.wp, Act.eval, go_sem, d99, hgt, h1, f1, f2, hBl]
        exact hK _ _ (Below.refl _ _) rfl
        | 27, _ =>
        obtain rfl := Option.some.inj hoq
        intro a1 w1 K hk hK
        have D105 : RdE w1 (a1.tmps.getD 105 undef) (insE p v l) := hk.deps ⟨6, .data⟩ (by simp) rfl _ _ rfl rfl
        simp [Region.wanted, Oper.wp, Act.eval, go_sem, hgt, h1, f1, f2, hBl]
        exact hK _ _ (Below.refl _ _) (by simpa [nthV] using D105)
        | k + 28, hk => exact absurd hk (by omega)
      · intro vs w3 hl hb3 hv
        match vs, hl with
        | v0 :: v1 :: v2 :: v3 :: v4 :: v5 :: v6 :: v7 :: v8 :: v9 :: v10 :: v11 :: v12 :: v13 :: v14 :: v15 :: v16 :: v17 :: v18 :: v19 :: v20 :: v21 :: v22 :: v23 :: v24 :: v25 :: v26 :: v27 :: [], _ =>
        obtain rfl : v0 = .pointer (some ⟨g, 0, none⟩) := hv 0 (by omega)
        obtain rfl : v1 = .slice AI l.length cI := hv 1 (by omega)
        obtain rfl : v2 = .pointer (some ⟨w.heap.size, 1, none⟩) := hv 2 (by omega)
        obtain rfl : v3 = .slice A2 p.length c2 := hv 3 (by omega)
        obtain rfl : v4 = .pointer (some ⟨w.heap.size, 2, none⟩) := hv 4 (by omega)
        obtain rfl : v5 = .int .u64 (v : Nat) := hv 5 (by omega)
        have q6 : RdE w3 v6 (insE p v l) := hv 6 (by omega)
        obtain rfl : v7 = .int .i64 0 := hv 7 (by omega)
        obtain rfl : v8 = .bool true := hv 8 (by omega)
        obtain rfl : v9 = .bool true := hv 9 (by omega)
        obtain rfl : v10 = .pointer (some ⟨g, 0, none⟩) := hv 10 (by omega)
        obtain rfl : v11 = .bool true := hv 11 (by omega)
        obtain rfl : v12 = .bool true := hv 12 (by omega)
        obtain rfl : v13 = .bool true := hv 13 (by omega)
        obtain rfl : v14 = .bool false := hv 14 (by omega)
        obtain rfl : v15 = .bool false := hv 15 (by omega)
        obtain rfl : v16 = undef := hv 16 (by omega)
        obtain rfl : v17 = undef := hv 17 (by omega)
        obtain rfl : v18 = undef := hv 18 (by omega)
        obtain rfl : v19 = undef := hv 19 (by omega)
        obtain rfl : v20 = .bool false := hv 20 (by omega)
        obtain rfl : v21 = .pointer (some ⟨g, 0, none⟩) := hv 21 (by omega)
        obtain rfl : v22 = .pointer (some ⟨t, 0, none⟩) := hv 22 (by omega)
        obtain rfl : v23 = .bool false := hv 23 (by omega)
        obtain rfl : v24 = .bool true := hv 24 (by omega)
        obtain rfl : v25 = .bool true := hv 25 (by omega)
        obtain rfl : v26 = .pointer (some ⟨g, 0, none⟩) := hv 26 (by omega)
        have q27 : RdE w3 v27 (insE p v l) := hv 27 (by omega)
        clear hv
        simp only [putAll, List.take_succ_cons, List.take_zero, List.drop_succ_cons, List.drop_zero, Act.put, List.setIfInBounds_toArray, List.set_cons_succ, List.set_cons_zero]
        have hb4 : Below w2.heap.size w2 w3 := below_trans (by repeat (first | exact Below.refl _ _ | (refine Below.drew ?_) | (refine below_drewN' ?_ _) | (refine below_alloc' ?_ _) | (refine Below.setCell ?_ (by first | exact Nat.le_refl _ | (simp; done) | (simp; omega)) _))) hb3
        have HF := Lib.hid (And.intro (HN2.out.1.bel hb4) (And.intro q27 (HN2.out.2.trans (hb4.mono HN2.out.2.size))))
        clear q6 q27 hb3 hb4
        go_wp2_with fail
        ((try simp only [Exit.inBlock, Exit.then]); refine bodyPost_ret (results_tmp3 rfl _ _ _) rfl ?_)
        rw [HST.out]
        exact ⟨g, _, rfl, HF.out⟩
    | some x =>
      by_cases hx : x = v
      · subst hx
        obtain rfl : g = t := HG.out.1 hget
        have HGT := Lib.hid hget
        have hgt : True := trivial
        have HEQ := Lib.hid (fun w3 (hb : Below w2.heap.size w2 w3) => tree_same w3 g)
        have h1 : True := trivial
        clear hget
        go_wp2_with fail
        refine wp_region_vals 28 [fun z9 _ => z9 = .pointer (some ⟨g, 0, none⟩),
          fun z9 _ => z9 = .slice AI l.length cI,
          fun z9 _ => z9 = .pointer (some ⟨w.heap.size, 1, none⟩),
          fun z9 _ => z9 = .slice A2 p.length c2,
          fun z9 _ => z9 = .pointer (some ⟨w.heap.size, 2, none⟩),
          fun z9 _ => z9 = .int .u64 (x : Nat),
          fun v9 w9 => RdE w9 v9 (insE p x l),
          fun z9 _ => z9 = .int .i64 0,
          fun z9 _ => z9 = .bool true,
          fun z9 _ => z9 = .bool true,
          fun z9 _ => z9 = .pointer (some ⟨g, 0, none⟩),
          fun z9 _ => z9 = .bool true,
          fun z9 _ => z9 = .bool true,
          fun z9 _ => z9 = .bool true,
          fun z9 _ => z9 = .bool true,
          fun z9 _ => z9 = .bool true,
          fun z9 _ => z9 = .int .u64 (x : Nat),
          fun z9 _ => z9 = .pointer (some ⟨w.heap.size, 2, none⟩),
          fun z9 _ => z9 = .int .u64 (x : Nat),
          fun z9 _ => z9 = .bool true,
          fun z9 _ => z9 = .bool true,
          fun z9 _ => z9 = .pointer (some ⟨g, 0, none⟩),
          fun z9 _ => z9 = .pointer (some ⟨g, 0, none⟩),
          fun z9 _ => z9 = .bool true,
          fun z9 _ => z9 = .bool true,
          fun z9 _ => z9 = .bool true,
          fun z9 _ => z9 = .pointer (some ⟨g, 0, none⟩),
          fun v9 w9 => RdE w9 v9 (insE p x l)]
          (by kernel_rfl) (by kernel_rfl) (by kernel_rfl) (by kernel_rfl) ?_ ?_ ?_
        · intro V hV v w1 w2 h hb
          simp only [List.mem_cons, List.not_mem_nil, or_false] at hV
          rcases hV with rfl | rfl | rfl | rfl | rfl | rfl | rfl | rfl | rfl | rfl | rfl | rfl | rfl | rfl | rfl | rfl | rfl | rfl | rfl | rfl | rfl | rfl | rfl | rfl | rfl | rfl | rfl | rfl
          all_goals first | exact h | (exact RdE.below h hb)
        · intro iq oq hiq hoq
          match iq, hiq with
          | 0, _ =>
          obtain rfl := Option.some.inj hoq
          intro a1 w1 K hk hK
          have e14 : a1.tmps.getD 14 undef = .pointer (some ⟨g, 0, none⟩) := hk.same 14 (by simp)
          simp [Region.wanted, Oper.wp, Act.eval, go_sem, e14, hgt, h1, f1, f2, hBl]
          exact hK _ _ (Below.refl _ _) rfl
          | 1, _ =>
          obtain rfl := Option.some.inj hoq
          intro a1 w1 K hk hK
          have e1 : a1.tmps.getD 1 undef = .slice AI l.length cI := hk.same 1 (by simp)
          simp [Region.wanted, Oper.wp, Act.eval, go_sem, e1, hgt, h1, f1, f2, hBl]
          exact hK _ _ (Below.refl _ _) rfl
          | 2, _ =>
          obtain rfl := Option.some.inj hoq
          intro a1 w1 K hk hK
          have e5 : a1.tmps.getD 5 undef = .pointer (some ⟨w.heap.size, 0, none⟩) := hk.same 5 (by simp)
          simp [Region.wanted, Oper.wp, Act.eval, go_sem, e5, hgt, h1, f1, f2, hBl]
          exact hK _ _ (Below.refl _ _) rfl
          | 3, _ =>
          obtain rfl := Option.some.inj hoq
          intro a1 w1 K hk hK
          have d101 : a1.tmps.getD 101 undef = .pointer (some ⟨w.heap.size, 1, none⟩) := hk.deps ⟨2, .data⟩ (by simp) rfl _ _ rfl rfl
          have c0 : w1.cell? ⟨w.heap.size, 1, none⟩ = some (.slice A2 p.length c2) := Below.keeps hk.ext _ _ (by simp [go_sem, hgt, h1, f1, f2, hBl])
          have c1 : w1.cell? ⟨w.heap.size, 2, none⟩ = some (.int .u64 (x : Nat)) := Below.keeps hk.ext _ _ (by simp [go_sem, hgt, h1, f1, f2, hBl])
          simp [Region.wanted, Oper.wp, Act.eval, go_sem, d101, c0, c1, hgt, h1, f1, f2, hBl]
          exact hK _ _ (Below.refl _ _) rfl
          | 4, _ =>
          obtain rfl := Option.some.inj hoq
          intro a1 w1 K hk hK
          have e5 : a1.tmps.getD 5 undef = .pointer (some ⟨w.heap.size, 0, none⟩) := hk.same 5 (by simp)
          simp [Region.wanted, Oper.wp, Act.eval, go_sem, e5, hgt, h1, f1, f2, hBl]
          exact hK _ _ (Below.refl _ _) rfl
          | 5, _ =>
          obtain rfl := Option.some.inj hoq
          intro a1 w1 K hk hK
          have d103 : a1.tmps.getD 103 undef = .pointer (some ⟨w.heap.size, 2, none⟩) := hk.deps ⟨4, .data⟩ (by simp) rfl _ _ rfl rfl
          have c0 : w1.cell? ⟨w.heap.size, 1, none⟩ = some (.slice A2 p.length c2) := Below.keeps hk.ext _ _ (by simp [go_sem, hgt, h1, f1, f2, hBl])
          have c1 : w1.cell? ⟨w.heap.size, 2, none⟩ = some (.int .u64 (x : Nat)) := Below.keeps hk.ext _ _ (by simp [go_sem, hgt, h1, f1, f2, hBl])
          simp [Region.wanted, Oper.wp, Act.eval, go_sem, d103, c0, c1, hgt, h1, f1, f2, hBl]
          exact hK _ _ (Below.refl _ _) rfl
          | 6, _ =>
          obtain rfl := Option.some.inj hoq
          intro a1 w1 K hk hK
          have d100 : a1.tmps.getD 100 undef = .slice AI l.length cI := hk.deps ⟨1, .data⟩ (by simp) rfl _ _ rfl rfl
          have d102 : a1.tmps.getD 102 undef = .slice A2 p.length c2 := hk.deps ⟨3, .data⟩ (by simp) rfl _ _ rfl rfl
          have d104 : a1.tmps.getD 104 undef = .int .u64 (x : Nat) := hk.deps ⟨5, .data⟩ (by simp) rfl _ _ rfl rfl
          simp [Region.wanted, Oper.wp, Act.eval, go_sem, d100, d102, d104, hgt, h1, f1, f2, hBl]
          refine (HRP.out _ (HN2.out.2.trans ((show Below w2.heap.size w2 _ from below_trans (by repeat (first | exact Below.refl _ _ | (refine Below.drew ?_) | (refine below_drewN' ?_ _) | (refine below_alloc' ?_ _) | (refine Below.setCell ?_ (by first | exact Nat.le_refl _ | (simp; done) | (simp; omega)) _))) hk.ext).mono HN2.out.2.size))).mono ?_
          rintro e w9 ⟨v9, rfl, h9, hb9⟩
          exact hK _ _ hb9 h9
          | 7, _ =>
          obtain rfl := Option.some.inj hoq
          intro a1 w1 K hk hK
          have e15 : a1.tmps.getD 15 undef = .int .i64 0 := hk.same 15 (by simp)
          simp [Region.wanted, Oper.wp, Act.eval, go_sem, e15, hgt, h1, f1, f2, hBl]
          exact hK _ _ (Below.refl _ _) rfl
          | 8, _ =>
          obtain rfl := Option.some.inj hoq
          intro a1 w1 K hk hK
          have d106 : a1.tmps.getD 106 undef = .int .i64 0 := hk.deps ⟨7, .data⟩ (by simp) rfl _ _ rfl rfl
          simp [Region.wanted, Oper.wp, Act.eval, go_sem, d106, hgt, h1, f1, f2, hBl]
          exact hK _ _ (Below.refl _ _) rfl
          | 9, _ =>
          obtain rfl := Option.some.inj hoq
          intro a1 w1 K hk hK
          have d107 : a1.tmps.getD 107 undef = .bool true := hk.deps ⟨8, .data⟩ (by simp) rfl _ _ rfl rfl
          simp [Region.wanted, Oper.wp, Act.eval, go_sem, d107, hgt, h1, f1, f2, hBl]
          exact hK _ _ (Below.refl _ _) rfl
          | 10, _ =>
          obtain rfl := Option.some.inj hoq
          intro a1 w1 K hk hK
          have e14 : a1.tmps.getD 14 undef = .pointer (some ⟨g, 0, none⟩) := hk.same 14 (by simp)
          have gd : a1.tmps[108]? = some (.bool true) := getD_bool (hk.deps ⟨9, .guard⟩ (by simp) rfl _ _ rfl rfl)
          simp [Region.wanted, Oper.wp, Act.eval, go_sem, e14, gd, yielded, hgt, h1, f1, f2, hBl]
          exact hK _ _ (Below.refl _ _) rfl
          | 11, _ =>
          obtain rfl := Option.some.inj hoq
          intro a1 w1 K hk hK
          have d109 : a1.tmps.getD 109 undef = .pointer (some ⟨g, 0, none⟩) := hk.deps ⟨10, .data⟩ (by simp) rfl _ _ rfl rfl
          have gd : a1.tmps[108]? = some (.bool true) := getD_bool (hk.deps ⟨9, .guard⟩ (by simp) rfl _ _ rfl rfl)
          simp [Region.wanted, Oper.wp, Act.eval, go_sem, d109, gd, yielded, hgt, h1, f1, f2, hBl]
          exact hK _ _ (Below.refl _ _) rfl
          | 12, _ =>
          obtain rfl := Option.some.inj hoq
          intro a1 w1 K hk hK
          have d108 : a1.tmps.getD 108 undef = .bool true := hk.deps ⟨9, .data⟩ (by simp) rfl _ _ rfl rfl
          have d110 : a1.tmps.getD 110 undef = .bool true := hk.deps ⟨11, .data⟩ (by simp) rfl _ _ rfl rfl
          simp [Region.wanted, Oper.wp, Act.eval, go_sem, d108, d110, hgt, h1, f1, f2, hBl]
          exact hK _ _ (Below.refl _ _) rfl
          | 13, _ =>
          obtain rfl := Option.some.inj hoq
          intro a1 w1 K hk hK
          have d111 : a1.tmps.getD 111 undef = .bool true := hk.deps ⟨12, .data⟩ (by simp) rfl _ _ rfl rfl
          simp [Region.wanted, Oper.wp, Act.eval, go_sem, d111, hgt, h1, f1, f2, hBl]
          exact hK _ _ (Below.refl _ _) rfl
          | 14, _ =>
          obtain rfl := Option.some.inj hoq
          intro a1 w1 K hk hK
          have e17 : a1.tmps.getD 17 undef = .bool true := hk.same 17 (by simp)
          have gd : a1.tmps[112]? = some (.bool true) := getD_bool (hk.deps ⟨13, .guard⟩ (by simp) rfl _ _ rfl rfl)
          simp [Region.wanted, Oper.wp, Act.eval, go_sem, e17, gd, yielded, hgt, h1, f1, f2, hBl]
          exact hK _ _ (Below.refl _ _) rfl
          | 15, _ =>
          obtain rfl := Option.some.inj hoq
          intro a1 w1 K hk hK
          have d113 : a1.tmps.getD 113 undef = .bool true := hk.deps ⟨14, .data⟩ (by simp) rfl _ _ rfl rfl
          have gd : a1.tmps[112]? = some (.bool true) := getD_bool (hk.deps ⟨13, .guard⟩ (by simp) rfl _ _ rfl rfl)
          simp [Region.wanted, Oper.wp, Act.eval, go_sem, d113, gd, yielded, hgt, h1, f1, f2, hBl]
          exact hK _ _ (Below.refl _ _) rfl
          | 16, _ =>
          obtain rfl := Option.some.inj hoq
          intro a1 w1 K hk hK
          have e16 : a1.tmps.getD 16 undef = .int .u64 (x : Nat) := hk.same 16 (by simp)
          have gd : a1.tmps[114]? = some (.bool true) := getD_bool (hk.deps ⟨15, .guard⟩ (by simp) rfl _ _ rfl rfl)
          simp [Region.wanted, Oper.wp, Act.eval, go_sem, e16, gd, yielded, hgt, h1, f1, f2, hBl]
          exact hK _ _ (Below.refl _ _) rfl
          | 17, _ =>
          obtain rfl := Option.some.inj hoq
          intro a1 w1 K hk hK
          have e5 : a1.tmps.getD 5 undef = .pointer (some ⟨w.heap.size, 0, none⟩) := hk.same 5 (by simp)
          have gd : a1.tmps[114]? = some (.bool true) := getD_bool (hk.deps ⟨15, .guard⟩ (by simp) rfl _ _ rfl rfl)
          simp [Region.wanted, Oper.wp, Act.eval, go_sem, e5, gd, yielded, hgt, h1, f1, f2, hBl]
          exact hK _ _ (Below.refl _ _) rfl
          | 18, _ =>
          obtain rfl := Option.some.inj hoq
          intro a1 w1 K hk hK
          have d116 : a1.tmps.getD 116 undef = .pointer (some ⟨w.heap.size, 2, none⟩) := hk.deps ⟨17, .data⟩ (by simp) rfl _ _ rfl rfl
          have gd : a1.tmps[114]? = some (.bool true) := getD_bool (hk.deps ⟨15, .guard⟩ (by simp) rfl _ _ rfl rfl)
          have c0 : w1.cell? ⟨w.heap.size, 1, none⟩ = some (.slice A2 p.length c2) := Below.keeps hk.ext _ _ (by simp [go_sem, hgt, h1, f1, f2, hBl])
          have c1 : w1.cell? ⟨w.heap.size, 2, none⟩ = some (.int .u64 (x : Nat)) := Below.keeps hk.ext _ _ (by simp [go_sem, hgt, h1, f1, f2, hBl])
          simp [Region.wanted, Oper.wp, Act.eval, go_sem, d116, gd, yielded, c0, c1, hgt, h1, f1, f2, hBl]
          exact hK _ _ (Below.refl _ _) rfl
          | 19, _ =>
          obtain rfl := Option.some.inj hoq
          intro a1 w1 K hk hK
          have d115 : a1.tmps.getD 115 undef = .int .u64 (x : Nat) := hk.deps ⟨16, .data⟩ (by simp) rfl _ _ rfl rfl
          have d117 : a1.tmps.getD 117 undef = .int .u64 (x : Nat) := hk.deps ⟨18, .data⟩ (by simp) rfl _ _ rfl rfl
          have gd : a1.tmps[114]? = some (.bool true) := getD_bool (hk.deps ⟨15, .guard⟩ (by simp) rfl _ _ rfl rfl)
          simp [Region.wanted, Oper.wp, Act.eval, go_sem, d115, d117, gd, yielded, hgt, h1, f1, f2, hBl]
          exact hK _ _ (Below.refl _ _) rfl
          | 20, _ =>
          obtain rfl := Option.some.inj hoq
          intro a1 w1 K hk hK
          have d114 : a1.tmps.getD 114 undef = .bool true := hk.deps ⟨15, .data⟩ (by simp) rfl _ _ rfl rfl
          have d118 : a1.tmps.getD 118 undef = .bool true := hk.deps ⟨19, .data⟩ (by simp) rfl _ _ rfl rfl
          have gd : a1.tmps[112]? = some (.bool true) := getD_bool (hk.deps ⟨13, .guard⟩ (by simp) rfl _ _ rfl rfl)
          simp [Region.wanted, Oper.wp, Act.eval, go_sem, d114, d118, gd, yielded, hgt, h1, f1, f2, hBl]
          exact hK _ _ (Below.refl _ _) rfl
          | 21, _ =>
          obtain rfl := Option.some.inj hoq
          intro a1 w1 K hk hK
          have e14 : a1.tmps.getD 14 undef = .pointer (some ⟨g, 0, none⟩) := hk.same 14 (by simp)
          have gd : a1.tmps[112]? = some (.bool true) := getD_bool (hk.deps ⟨13, .guard⟩ (by simp) rfl _ _ rfl rfl)
          simp [Region.wanted, Oper.wp, Act.eval, go_sem, e14, gd, yielded, hgt, h1, f1, f2, hBl]
          exact hK _ _ (Below.refl _ _) rfl
          | 22, _ =>
          obtain rfl := Option.some.inj hoq
          intro a1 w1 K hk hK
          have e0 : a1.tmps.getD 0 undef = .pointer (some ⟨g, 0, none⟩) := hk.same 0 (by simp)
          have gd : a1.tmps[112]? = some (.bool true) := getD_bool (hk.deps ⟨13, .guard⟩ (by simp) rfl _ _ rfl rfl)
          simp [Region.wanted, Oper.wp, Act.eval, go_sem, e0, gd, yielded, hgt, h1, f1, f2, hBl]
          exact hK _ _ (Below.refl _ _) rfl
          | 23, _ =>
          obtain rfl := Option.some.inj hoq
          intro a1 w1 K hk hK
          have d120 : a1.tmps.getD 120 undef = .pointer (some ⟨g, 0, none⟩) := hk.deps ⟨21, .data⟩ (by simp) rfl _ _ rfl rfl
          have d121 : a1.tmps.getD 121 undef = .pointer (some ⟨g, 0, none⟩) := hk.deps ⟨22, .data⟩ (by simp) rfl _ _ rfl rfl
          have gd : a1.tmps[112]? = some (.bool true) := getD_bool (hk.deps ⟨13, .guard⟩ (by simp) rfl _ _ rfl rfl)
          simp [Region.wanted, Oper.wp, Act.eval, go_sem, d120, d121, gd, yielded, hgt, h1, f1, f2, hBl]
          rw [HEQ.out w1 (below_trans (by repeat (first | exact Below.refl _ _ | (refine Below.drew ?_) | (refine below_drewN' ?_ _) | (refine below_alloc' ?_ _) | (refine Below.setCell ?_ (by first | exact Nat.le_refl _ | (simp; done) | (simp; omega)) _))) hk.ext)]
          exact hK _ _ (Below.refl _ _) rfl
          | 24, _ =>
          obtain rfl := Option.some.inj hoq
          intro a1 w1 K hk hK
          have d119 : a1.tmps.getD 119 undef = .bool true := hk.deps ⟨20, .data⟩ (by simp) rfl _ _ rfl rfl
          have d122 : a1.tmps.getD 122 undef = .bool true := hk.deps ⟨23, .data⟩ (by simp) rfl _ _ rfl rfl
          have gd : a1.tmps[112]? = some (.bool true) := getD_bool (hk.deps ⟨13, .guard⟩ (by simp) rfl _ _ rfl rfl)
          simp [Region.wanted, Oper.wp, Act.eval, go_sem, d119, d122, gd, yielded, hgt, h1, f1, f2, hBl]
          exact hK _ _ (Below.refl _ _) rfl
          | 25, _ =>
          obtain rfl := Option.some.inj hoq
          intro a1 w1 K hk hK
          have d112 : a1.tmps.getD 112 undef = .bool true := hk.deps ⟨13, .data⟩ (by simp) rfl _ _ rfl rfl
          have d123 : a1.tmps.getD 123 undef = .bool true := hk.deps ⟨24, .data⟩ (by simp) rfl _ _ rfl rfl
          simp [Region.wanted, Oper.wp, Act.eval, go_sem, d112, d123, hgt, h1, f1, f2, hBl]
          exact hK _ _ (Below.refl _ _) rfl
          | 26, _ =>
          obtain rfl := Option.some.inj hoq
          intro a1 w1 K hk hK
          have d99 : a1.tmps.getD 99 undef = .pointer (some ⟨g, 0, none⟩) := hk.deps ⟨0, .data⟩ (by simp) rfl _ _ rfl rfl
          simp [Region.wanted, Oper.wp, Act.eval, go_sem, d99, hgt, h1, f1, f2, hBl]
          exact hK _ _ (Below.refl _ _) rfl
          | 27, _ =>
          obtain rfl := Option.some.inj hoq
          intro a1 w1 K hk hK
          have D105 : RdE w1 (a1.tmps.getD 105 undef) (insE p x l) := hk.deps ⟨6, .data⟩ (by simp) rfl _ _ rfl rfl
          simp [Region.wanted, Oper.wp, Act.eval, go_sem, hgt, h1, f1, f2, hBl]
          exact hK _ _ (Below.refl _ _) (by simpa [nthV] using D105)
          | k + 28, hk => exact absurd hk (by omega)
        · intro vs w3 hl hb3 hv
          match vs, hl with
          | v0 :: v1 :: v2 :: v3 :: v4 :: v5 :: v6 :: v7 :: v8 :: v9 :: v10 :: v11 :: v12 :: v13 :: v14 :: v15 :: v16 :: v17 :: v18 :: v19 :: v20 :: v21 :: v22 :: v23 :: v24 :: v25 :: v26 :: v27 :: [], _ =>
          obtain rfl : v0 = .pointer (some ⟨g, 0, none⟩) := hv 0 (by omega)
          obtain rfl : v1 = .slice AI l.length cI := hv 1 (by omega)
          obtain rfl : v2 = .pointer (some ⟨w.heap.size, 1, none⟩) := hv 2 (by omega)
          obtain rfl : v3 = .slice A2 p.length c2 := hv 3 (by omega)
          obtain rfl : v4 = .pointer (some ⟨w.heap.size, 2, none⟩) := hv 4 (by omega)
          obtain rfl : v5 = .int .u64 (x : Nat) := hv 5 (by omega)
          have q6 : RdE w3 v6 (insE p x l) := hv 6 (by omega)
          obtain rfl : v7 = .int .i64 0 := hv 7 (by omega)
          obtain rfl : v8 = .bool true := hv 8 (by omega)
          obtain rfl : v9 = .bool true := hv 9 (by omega)
          obtain rfl : v10 = .pointer (some ⟨g, 0, none⟩) := hv 10 (by omega)
          obtain rfl : v11 = .bool true := hv 11 (by omega)
          obtain rfl : v12 = .bool true := hv 12 (by omega)
          obtain rfl : v13 = .bool true := hv 13 (by omega)
          obtain rfl : v14 = .bool true := hv 14 (by omega)
          obtain rfl : v15 = .bool true := hv 15 (by omega)
          obtain rfl : v16 = .int .u64 (x : Nat) := hv 16 (by omega)
          obtain rfl : v17 = .pointer (some ⟨w.heap.size, 2, none⟩) := hv 17 (by omega)
          obtain rfl : v18 = .int .u64 (x : Nat) := hv 18 (by omega)
          obtain rfl : v19 = .bool true := hv 19 (by omega)
          obtain rfl : v20 = .bool true := hv 20 (by omega)
          obtain rfl : v21 = .pointer (some ⟨g, 0, none⟩) := hv 21 (by omega)
          obtain rfl : v22 = .pointer (some ⟨g, 0, none⟩) := hv 22 (by omega)
          obtain rfl : v23 = .bool true := hv 23 (by omega)
          obtain rfl : v24 = .bool true := hv 24 (by omega)
          obtain rfl : v25 = .bool true := hv 25 (by omega)
          obtain rfl : v26 = .pointer (some ⟨g, 0, none⟩) := hv 26 (by omega)
          have q27 : RdE w3 v27 (insE p x l) := hv 27 (by omega)
          clear hv
          simp only [putAll, List.take_succ_cons, List.take_zero, List.drop_succ_cons, List.drop_zero, Act.put, List.setIfInBounds_toArray, List.set_cons_succ, List.set_cons_zero]
          have hb4 : Below w2.heap.size w2 w3 := below_trans (by repeat (first | exact Below.refl _ _ | (refine Below.drew ?_) | (refine below_drewN' ?_ _) | (refine below_alloc' ?_ _) | (refine Below.setCell ?_ (by first | exact Nat.le_refl _ | (simp; done) | (simp; omega)) _))) hb3
          have HF := Lib.hid (And.intro (HN2.out.1.bel hb4) (And.intro q27 (HN2.out.2.trans (hb4.mono HN2.out.2.size))))
          clear q6 q27 hb3 hb4
          go_wp2_with fail
          ((try simp only [Exit.inBlock, Exit.then]); refine bodyPost_ret (results_tmp3 rfl _ _ _) rfl ?_)
          rw [HST.out]
          exact ⟨g, _, rfl, HF.out⟩
      · have hgt : ¬ g = t := by have := HG.out.2 (by rw [hget]; simpa using hx); omega
        have h1 : ((x : Int) == (v : Int)) = false := by simp; omega
        have HEQ := Lib.hid (fun w3 (hb : Below w2.heap.size w2 w3) => tree_other (HN2.out.1.bel hb) ((HT.out.1.bel HN2.out.2).bel hb) hgt)
        have HGT := Lib.hid hget
        clear hget
        go_wp2_with fail
        refine wp_region_vals 28 [fun z9 _ => z9 = .pointer (some ⟨g, 0, none⟩),
          fun z9 _ => z9 = .slice AI l.length cI,
          fun z9 _ => z9 = .pointer (some ⟨w.heap.size, 1, none⟩),
          fun z9 _ => z9 = .slice A2 p.length c2,
          fun z9 _ => z9 = .pointer (some ⟨w.heap.size, 2, none⟩),
          fun z9 _ => z9 = .int .u64 (v : Nat),
          fun v9 w9 => RdE w9 v9 (insE p v l),
          fun z9 _ => z9 = .int .i64 0,
          fun z9 _ => z9 = .bool true,
          fun z9 _ => z9 = .bool true,
          fun z9 _ => z9 = .pointer (some ⟨g, 0, none⟩),
          fun z9 _ => z9 = .bool true,
          fun z9 _ => z9 = .bool true,
          fun z9 _ => z9 = .bool true,
          fun z9 _ => z9 = .bool true,
          fun z9 _ => z9 = .bool true,
          fun z9 _ => z9 = .int .u64 (x : Nat),
          fun z9 _ => z9 = .pointer (some ⟨w.heap.size, 2, none⟩),
          fun z9 _ => z9 = .int .u64 (v : Nat),
          fun z9 _ => z9 = .bool false,
          fun z9 _ => z9 = .bool false,
          fun z9 _ => z9 = .pointer (some ⟨g, 0, none⟩),
          fun z9 _ => z9 = .pointer (some ⟨t, 0, none⟩),
          fun z9 _ => z9 = .bool false,
          fun z9 _ => z9 = .bool true,
          fun z9 _ => z9 = .bool true,
          fun z9 _ => z9 = .pointer (some ⟨g, 0, none⟩),
          fun v9 w9 => RdE w9 v9 (insE p v l)]
          (by kernel_rfl) (by kernel_rfl) (by kernel_rfl) (by kernel_rfl) ?_ ?_ ?_
        · intro V hV v w1 w2 h hb
          simp only [List.mem_cons, List.not_mem_nil, or_false] at hV
          rcases hV with rfl | rfl | rfl | rfl | rfl | rfl | rfl | rfl | rfl | rfl | rfl | rfl | rfl | rfl | rfl | rfl | rfl | rfl | rfl | rfl | rfl | rfl | rfl | rfl | rfl | rfl | rfl | rfl
          all_goals first | exact h | (exact RdE.below h hb)
        · intro iq oq hiq hoq
          match iq, hiq with
          | 0, _ =>
          obtain rfl := Option.some.inj hoq
          intro a1 w1 K hk hK
          have e14 : a1.tmps.getD 14 undef = .pointer (some ⟨g, 0, none⟩) := hk.same 14 (by simp)
          simp [Region.wanted, Oper.wp, Act.eval, go_sem, e14, hgt, h1, f1, f2, hBl]
          exact hK _ _ (Below.refl _ _) rfl
          | 1, _ =>
          obtain rfl := Option.some.inj hoq
          intro a1 w1 K hk hK
          have e1 : a1.tmps.getD 1 undef = .slice AI l.length cI := hk.same 1 (by simp)
          simp [Region.wanted, Oper.wp, Act.eval, go_sem, e1, hgt, h1, f1, f2, hBl]
          exact hK _ _ (Below.refl _ _) rfl
          | 2, _ =>
          obtain rfl := Option.some.inj hoq
          intro a1 w1 K hk hK
          have e5 : a1.tmps.getD 5 undef = .pointer (some ⟨w.heap.size, 0, none⟩) := hk.same 5 (by simp)
          simp [Region.wanted, Oper.wp, Act.eval, go_sem, e5, hgt, h1, f1, f2, hBl]
          exact hK _ _ (Below.refl _ _) rfl
          | 3, _ =>
          obtain rfl := Option.some.inj hoq
          intro a1 w1 K hk hK
          have d101 : a1.tmps.getD 101 undef = .pointer (some ⟨w.heap.size, 1, none⟩) := hk.deps ⟨2, .data⟩ (by simp) rfl _ _ rfl rfl
          have c0 : w1.cell? ⟨w.heap.size, 1, none⟩ = some (.slice A2 p.length c2) := Below.keeps hk.ext _ _ (by simp [go_sem, hgt, h1, f1, f2, hBl])
          have c1 : w1.cell? ⟨w.heap.size, 2, none⟩ = some (.int .u64 (v : Nat)) := Below.keeps hk.ext _ _ (by simp [go_sem, hgt, h1, f1, f2, hBl])
          simp [Region.wanted, Oper.wp, Act.eval, go_sem, d101, c0, c1, hgt, h1, f1, f2, hBl]
          exact hK _ _ (Below.refl _ _) rfl
          | 4, _ =>
          obtain rfl := Option.some.inj hoq
          intro a1 w1 K hk hK
          have e5 : a1.tmps.getD 5 undef = .pointer (some ⟨w.heap.size, 0, none⟩) := hk.same 5 (by simp)
          simp [Region.wanted, Oper.wp, Act.eval, go_sem, e5, hgt, h1, f1, f2, hBl]
          exact hK _ _ (Below.refl _ _) rfl
          | 5, _ =>
          obtain rfl := Option.some.inj hoq
          intro a1 w1 K hk hK
          have d103 : a1.tmps.getD 103 undef = .pointer (some ⟨w.heap.size, 2, none⟩) := hk.deps ⟨4, .data⟩ (by simp) rfl _ _ rfl rfl
          have c0 : w1.cell? ⟨w.heap.size, 1, none⟩ = some (.slice A2 p.length c2) := Below.keeps hk.ext _ _ (by simp [go_sem, hgt, h1, f1, f2, hBl])
          have c1 : w1.cell? ⟨w.heap.size, 2, none⟩ = some (.int .u64 (v : Nat)) := Below.keeps hk.ext _ _ (by simp [go_sem, hgt, h1, f1, f2, hBl])
          simp [Region.wanted, Oper.wp, Act.eval, go_sem, d103, c0, c1, hgt, h1, f1, f2, hBl]
          exact hK _ _ (Below.refl _ _) rfl
          | 6, _ =>
          obtain rfl := Option.some.inj hoq
          intro a1 w1 K hk hK
          have d100 : a1.tmps.getD 100 undef = .slice AI l.length cI := hk.deps ⟨1, .data⟩ (by simp) rfl _ _ rfl rfl
          have d102 : a1.tmps.getD 102 undef = .slice A2 p.length c2 := hk.deps ⟨3, .data⟩ (by simp) rfl _ _ rfl rfl
          have d104 : a1.tmps.getD 104 undef = .int .u64 (v : Nat) := hk.deps ⟨5, .data⟩ (by simp) rfl _ _ rfl rfl
          simp [Region.wanted, Oper.wp, Act.eval, go_sem, d100, d102, d104, hgt, h1, f1, f2, hBl]
          refine (HRP.out _ (HN2.out.2.trans ((show Below w2.heap.size w2 _ from below_trans (by repeat (first | exact Below.refl _ _ | (refine Below.drew ?_) | (refine below_drewN' ?_ _) | (refine below_alloc' ?_ _) | (refine Below.setCell ?_ (by first | exact Nat.le_refl _ | (simp; done) | (simp; omega)) _))) hk.ext).mono HN2.out.2.size))).mono ?_
          rintro e w9 ⟨v9, rfl, h9, hb9⟩
          exact hK _ _ hb9 h9
          | 7, _ =>
          obtain rfl := Option.some.inj hoq
          intro a1 w1 K hk hK
          have e15 : a1.tmps.getD 15 undef = .int .i64 0 := hk.same 15 (by simp)
          simp [Region.wanted, Oper.wp, Act.eval, go_sem, e15, hgt, h1, f1, f2, hBl]
          exact hK _ _ (Below.refl _ _) rfl
          | 8, _ =>
          obtain rfl := Option.some.inj hoq
          intro a1 w1 K hk hK
          have d106 : a1.tmps.getD 106 undef = .int .i64 0 := hk.deps ⟨7, .data⟩ (by simp) rfl _ _ rfl rfl
          simp [Region.wanted, Oper.wp, Act.eval, go_sem, d106, hgt, h1, f1, f2, hBl]
          exact hK _ _ (Below.refl _ _) rfl
          | 9, _ =>
          obtain rfl := Option.some.inj hoq
          intro a1 w1 K hk hK
          have d107 : a1.tmps.getD 107 undef = .bool true := hk.deps ⟨8, .data⟩ (by simp) rfl _ _ rfl rfl
          simp [Region.wanted, Oper.wp, Act.eval, go_sem, d107, hgt, h1, f1, f2, hBl]
          exact hK _ _ (Below.refl _ _) rfl
          | 10, _ =>
          obtain rfl := Option.some.inj hoq
          intro a1 w1 K hk hK
          have e14 : a1.tmps.getD 14 undef = .pointer (some ⟨g, 0, none⟩) := hk.same 14 (by simp)
          have gd : a1.tmps[108]? = some (.bool true) := getD_bool (hk.deps ⟨9, .guard⟩ (by simp) rfl _ _ rfl rfl)
          simp [Region.wanted, Oper.wp, Act.eval, go_sem, e14, gd, yielded, hgt, h1, f1, f2, hBl]
          exact hK _ _ (Below.refl _ _) rfl
          | 11, _ =>
          obtain rfl := Option.some.inj hoq
          intro a1 w1 K hk hK
          have d109 : a1.tmps.getD 109 undef = .pointer (some ⟨g, 0, none⟩) := hk.deps ⟨10, .data⟩ (by simp) rfl _ _ rfl rfl
          have gd : a1.tmps[108]? = some (.bool true) := getD_bool (hk.deps ⟨9, .guard⟩ (by simp) rfl _ _ rfl rfl)
          simp [Region.wanted, Oper.wp, Act.eval, go_sem, d109, gd, yielded, hgt, h1, f1, f2, hBl]
          exact hK _ _ (Below.refl _ _) rfl
          | 12, _ =>
          obtain rfl := Option.some.inj hoq
          intro a1 w1 K hk hK
          have d108 : a1.tmps.getD 108 undef = .bool true := hk.deps ⟨9, .data⟩ (by simp) rfl _ _ rfl rfl
          have d110 : a1.tmps.getD 110 undef = .bool true := hk.deps ⟨11, .data⟩ (by simp) rfl _ _ rfl rfl
          simp [Region.wanted, Oper.wp, Act.eval, go_sem, d108, d110, hgt, h1, f1, f2, hBl]
          exact hK _ _ (Below.refl _ _) rfl
          | 13, _ =>
          obtain rfl := Option.some.inj hoq
          intro a1 w1 K hk hK
          have d111 : a1.tmps.getD 111 undef = .bool true := hk.deps ⟨12, .data⟩ (by simp) rfl _ _ rfl rfl
          simp [Region.wanted, Oper.wp, Act.eval, go_sem, d111, hgt, h1, f1, f2, hBl]
          exact hK _ _ (Below.refl _ _) rfl
          | 14, _ =>
          obtain rfl := Option.some.inj hoq
          intro a1 w1 K hk hK
          have e17 : a1.tmps.getD 17 undef = .bool true := hk.same 17 (by simp)
          have gd : a1.tmps[112]? = some (.bool true) := getD_bool (hk.deps ⟨13, .guard⟩ (by simp) rfl _ _ rfl rfl)
          simp [Region.wanted, Oper.wp, Act.eval, go_sem, e17, gd, yielded, hgt, h1, f1, f2, hBl]
          exact hK _ _ (Below.refl _ _) rfl
          | 15, _ =>
          obtain rfl := Option.some.inj hoq
          intro a1 w1 K hk hK
          have d113 : a1.tmps.getD 113 undef = .bool true := hk.deps ⟨14, .data⟩ (by simp) rfl _ _ rfl rfl
          have gd : a1.tmps[112]? = some (.bool true) := getD_bool (hk.deps ⟨13, .guard⟩ (by simp) rfl _ _ rfl rfl)
          simp [Region.wanted, Oper.wp, Act.eval, go_sem, d113, gd, yielded, hgt, h1, f1, f2, hBl]
          exact hK _ _ (Below.refl _ _) rfl
          | 16, _ =>
          obtain rfl := Option.some.inj hoq
          intro a1 w1 K hk hK
          have e16 : a1.tmps.getD 16 undef = .int .u64 (x : Nat) := hk.same 16 (by simp)
          have gd : a1.tmps[114]? = some (.bool true) := getD_bool (hk.deps ⟨15, .guard⟩ (by simp) rfl _ _ rfl rfl)
          simp [Region.wanted, Oper.wp, Act.eval, go_sem, e16, gd, yielded, hgt, h1, f1, f2, hBl]
          exact hK _ _ (Below.refl _ _) rfl
          | 17, _ =>
          obtain rfl := Option.some.inj hoq
          intro a1 w1 K hk hK
          have e5 : a1.tmps.getD 5 undef = .pointer (some ⟨w.heap.size, 0, none⟩) := hk.same 5 (by simp)
          have gd : a1.tmps[114]? = some (.bool true) := getD_bool (hk.deps ⟨15, .guard⟩ (by simp) rfl _ _ rfl rfl)
          simp [Region.wanted, Oper.wp, Act.eval, go_sem, e5, gd, yielded, hgt, h1, f1, f2, hBl]
          exact hK _ _ (Below.refl _ _) rfl
          | 18, _ =>
          obtain rfl := Option.some.inj hoq
          intro a1 w1 K hk hK
          have d116 : a1.tmps.getD 116 undef = .pointer (some ⟨w.heap.size, 2, none⟩) := hk.deps ⟨17, .data⟩ (by simp) rfl _ _ rfl rfl
          have gd : a1.tmps[114]? = some (.bool true) := getD_bool (hk.deps ⟨15, .guard⟩ (by simp) rfl _ _ rfl rfl)
          have c0 : w1.cell? ⟨w.heap.size, 1, none⟩ = some (.slice A2 p.length c2) := Below.keeps hk.ext _ _ (by simp [go_sem, hgt, h1, f1, f2, hBl])
          have c1 : w1.cell? ⟨w.heap.size, 2, none⟩ = some (.int .u64 (v : Nat)) := Below.keeps hk.ext _ _ (by simp [go_sem, hgt, h1, f1, f2, hBl])
          simp [Region.wanted, Oper.wp, Act.eval, go_sem, d116, gd, yielded, c0, c1, hgt, h1, f1, f2, hBl]
          exact hK _ _ (Below.refl _ _) rfl
          | 19, _ =>
          obtain rfl := Option.some.inj hoq
          intro a1 w1 K hk hK
          have d115 : a1.tmps.getD 115 undef = .int .u64 (x : Nat) := hk.deps ⟨16, .data⟩ (by simp) rfl _ _ rfl rfl
          have d117 : a1.tmps.getD 117 undef = .int .u64 (v : Nat) := hk.deps ⟨18, .data⟩ (by simp) rfl _ _ rfl rfl
          have gd : a1.tmps[114]? = some (.bool true) := getD_bool (hk.deps ⟨15, .guard⟩ (by simp) rfl _ _ rfl rfl)
          simp [Region.wanted, Oper.wp, Act.eval, go_sem, d115, d117, gd, yielded, hgt, h1, f1, f2, hBl]
          exact hK _ _ (Below.refl _ _) rfl
          | 20, _ =>
          obtain rfl := Option.some.inj hoq
          intro a1 w1 K hk hK
          have d114 : a1.tmps.getD 114 undef = .bool true := hk.deps ⟨15, .data⟩ (by simp) rfl _ _ rfl rfl
          have d118 : a1.tmps.getD 118 undef = .bool false := hk.deps ⟨19, .data⟩ (by simp) rfl _ _ rfl rfl
          have gd : a1.tmps[112]? = some (.bool true) := getD_bool (hk.deps ⟨13, .guard⟩ (by simp) rfl _ _ rfl rfl)
          simp [Region.wanted, Oper.wp, Act.eval, go_sem, d114, d118, gd, yielded, hgt, h1, f1, f2, hBl]
          exact hK _ _ (Below.refl _ _) rfl
          | 21, _ =>
          obtain rfl := Option.some.inj hoq
          intro a1 w1 K hk hK
          have e14 : a1.tmps.getD 14 undef = .pointer (some ⟨g, 0, none⟩) := hk.same 14 (by simp)
          have gd : a1.tmps[112]? = some (.bool true) := getD_bool (hk.deps ⟨13, .guard⟩ (by simp) rfl _ _ rfl rfl)
          simp [Region.wanted, Oper.wp, Act.eval, go_sem, e14, gd, yielded, hgt, h1, f1, f2, hBl]
          exact hK _ _ (Below.refl _ _) rfl
          | 22, _ =>
          obtain rfl := Option.some.inj hoq
          intro a1 w1 K hk hK
          have e0 : a1.tmps.getD 0 undef = .pointer (some ⟨t, 0, none⟩) := hk.same 0 (by simp)
          have gd : a1.tmps[112]? = some (.bool true) := getD_bool (hk.deps ⟨13, .guard⟩ (by simp) rfl _ _ rfl rfl)
          simp [Region.wanted, Oper.wp, Act.eval, go_sem, e0, gd, yielded, hgt, h1, f1, f2, hBl]
          exact hK _ _ (Below.refl _ _) rfl
          | 23, _ =>
          obtain rfl := Option.some.inj hoq
          intro a1 w1 K hk hK
          have d120 : a1.tmps.getD 120 undef = .pointer (some ⟨g, 0, none⟩) := hk.deps ⟨21, .data⟩ (by simp) rfl _ _ rfl rfl
          have d121 : a1.tmps.getD 121 undef = .pointer (some ⟨t, 0, none⟩) := hk.deps ⟨22, .data⟩ (by simp) rfl _ _ rfl rfl
          have gd : a1.tmps[112]? = some (.bool true) := getD_bool (hk.deps ⟨13, .guard⟩ (by simp) rfl _ _ rfl rfl)
          simp [Region.wanted, Oper.wp, Act.eval, go_sem, d120, d121, gd, yielded, hgt, h1, f1, f2, hBl]
          rw [HEQ.out w1 (below_trans (by repeat (first | exact Below.refl _ _ | (refine Below.drew ?_) | (refine below_drewN' ?_ _) | (refine below_alloc' ?_ _) | (refine Below.setCell ?_ (by first | exact Nat.le_refl _ | (simp; done) | (simp; omega)) _))) hk.ext)]
          exact hK _ _ (Below.refl _ _) rfl
          | 24, _ =>
          obtain rfl := Option.some.inj hoq
          intro a1 w1 K hk hK
          have d119 : a1.tmps.getD 119 undef = .bool false := hk.deps ⟨20, .data⟩ (by simp) rfl _ _ rfl rfl
          have d122 : a1.tmps.getD 122 undef = .bool false := hk.deps ⟨23, .data⟩ (by simp) rfl _ _ rfl rfl
          have gd : a1.tmps[112]? = some (.bool true) := getD_bool (hk.deps ⟨13, .guard⟩ (by simp) rfl _ _ rfl rfl)
          simp [Region.wanted, Oper.wp, Act.eval, go_sem, d119, d122, gd, yielded, hgt, h1, f1, f2, hBl]
          exact hK _ _ (Below.refl _ _) rfl
          | 25, _ =>
          obtain rfl := Option.some.inj hoq
          intro a1 w1 K hk hK
          have d112 : a1.tmps.getD 112 undef = .bool true := hk.deps ⟨13, .data⟩ (by simp) rfl _ _ rfl rfl
          have d123 : a1.tmps.getD 123 undef = .bool true := hk.deps ⟨24, .data⟩ (by simp) rfl _ _ rfl rfl
          simp [Region.wanted, Oper.wp, Act.eval, go_sem, d112, d123, hgt, h1, f1, f2, hBl]
          exact hK _ _ (Below.refl _ _) rfl
          | 26, _ =>
          obtain rfl := Option.some.inj hoq
          intro a1 w1 K hk hK
          have d99 : a1.tmps.getD 99 undef = .pointer (some ⟨g, 0, none⟩) := hk.deps ⟨0, .data⟩ (by simp) rfl _ _ rfl rfl
          simp [Region.wanted, Oper.wp, Act.eval, go_sem, d99, hgt, h1, f1, f2, hBl]
          exact hK _ _ (Below.refl _ _) rfl
          | 27, _ =>
          obtain rfl := Option.some.inj hoq
          intro a1 w1 K hk hK
          have D105 : RdE w1 (a1.tmps.getD 105 undef) (insE p v l) := hk.deps ⟨6, .data⟩ (by simp) rfl _ _ rfl rfl
          simp [Region.wanted, Oper.wp, Act.eval, go_sem, hgt, h1, f1, f2, hBl]
          exact hK _ _ (Below.refl _ _) (by simpa [nthV] using D105)
          | k + 28, hk => exact absurd hk (by omega)
        · intro vs w3 hl hb3 hv
          match vs, hl with
          | v0 :: v1 :: v2 :: v3 :: v4 :: v5 :: v6 :: v7 :: v8 :: v9 :: v10 :: v11 :: v12 :: v13 :: v14 :: v15 :: v16 :: v17 :: v18 :: v19 :: v20 :: v21 :: v22 :: v23 :: v24 :: v25 :: v26 :: v27 :: [], _ =>
          obtain rfl : v0 = .pointer (some ⟨g, 0, none⟩) := hv 0 (by omega)
          obtain rfl : v1 = .slice AI l.length cI := hv 1 (by omega)
          obtain rfl : v2 = .pointer (some ⟨w.heap.size, 1, none⟩) := hv 2 (by omega)
          obtain rfl : v3 = .slice A2 p.length c2 := hv 3 (by omega)
          obtain rfl : v4 = .pointer (some ⟨w.heap.size, 2, none⟩) := hv 4 (by omega)
          obtain rfl : v5 = .int .u64 (v : Nat) := hv 5 (by omega)
          have q6 : RdE w3 v6 (insE p v l) := hv 6 (by omega)
          obtain rfl : v7 = .int .i64 0 := hv 7 (by omega)
          obtain rfl : v8 = .bool true := hv 8 (by omega)
          obtain rfl : v9 = .bool true := hv 9 (by omega)
          obtain rfl : v10 = .pointer (some ⟨g, 0, none⟩) := hv 10 (by omega)
          obtain rfl : v11 = .bool true := hv 11 (by omega)
          obtain rfl : v12 = .bool true := hv 12 (by omega)
          obtain rfl : v13 = .bool true := hv 13 (by omega)
          obtain rfl : v14 = .bool true := hv 14 (by omega)
          obtain rfl : v15 = .bool true := hv 15 (by omega)
          obtain rfl : v16 = .int .u64 (x : Nat) := hv 16 (by omega)
          obtain rfl : v17 = .pointer (some ⟨w.heap.size, 2, none⟩) := hv 17 (by omega)
          obtain rfl : v18 = .int .u64 (v : Nat) := hv 18 (by omega)
          obtain rfl : v19 = .bool false := hv 19 (by omega)
          obtain rfl : v20 = .bool false := hv 20 (by omega)
          obtain rfl : v21 = .pointer (some ⟨g, 0, none⟩) := hv 21 (by omega)
          obtain rfl : v22 = .pointer (some ⟨t, 0, none⟩) := hv 22 (by omega)
          obtain rfl : v23 = .bool false := hv 23 (by omega)
          obtain rfl : v24 = .bool true := hv 24 (by omega)
          obtain rfl : v25 = .bool true := hv 25 (by omega)
          obtain rfl : v26 = .pointer (some ⟨g, 0, none⟩) := hv 26 (by omega)
          have q27 : RdE w3 v27 (insE p v l) := hv 27 (by omega)
          clear hv
          simp only [putAll, List.take_succ_cons, List.take_zero, List.drop_succ_cons, List.drop_zero, Act.put, List.setIfInBounds_toArray, List.set_cons_succ, List.set_cons_zero]
          have hb4 : Below w2.heap.size w2 w3 := below_trans (by repeat (first | exact Below.refl _ _ | (refine Below.drew ?_) | (refine below_drewN' ?_ _) | (refine below_alloc' ?_ _) | (refine Below.setCell ?_ (by first | exact Nat.le_refl _ | (simp; done) | (simp; omega)) _))) hb3
          have HF := Lib.hid (And.intro (HN2.out.1.bel hb4) (And.intro q27 (HN2.out.2.trans (hb4.mono HN2.out.2.size))))
          clear q6 q27 hb3 hb4
          go_wp2_with fail
          ((try simp only [Exit.inBlock, Exit.then]); refine bodyPost_ret (results_tmp3 rfl _ _ _) rfl ?_)
          rw [HST.out]
          exact ⟨g, _, rfl, HF.out⟩
  · have HTD := Lib.hid (fun w1 (hb : Below w.heap.size w w1) => tput_dim w1 t k p.length c2 v A2 l (ht.bel hb) hk)
    have HST := Lib.hid (show stepL k l ⟨false, p, v⟩ = l by unfold stepL; rw [if_neg hk])
    have hn : ((p.length : Int) != (k : Int)) = true := by simp; omega
    have hn2 : ¬ (p.length : Int) = (k : Int) := by omega
    clear ht hp ho hl hk
    go_enter Try.func19, Try.ntmps19
    go_wp2_with fail
    refine (HTK.out _ (by repeat (first | exact Below.refl _ _ | (refine Below.drew ?_) | (refine below_drewN' ?_ _) | (refine below_alloc' ?_ _) | (refine Below.setCell ?_ (by first | exact Nat.le_refl _ | (simp; done) | (simp; omega)) _)))).mono ?_
    rintro e w1 ⟨rfl, hw⟩
    obtain rfl := hw.symm
    go_wp2_with fail
    refine (HTD.out _ (by repeat (first | exact Below.refl _ _ | (refine Below.drew ?_) | (refine below_drewN' ?_ _) | (refine below_alloc' ?_ _) | (refine Below.setCell ?_ (by first | exact Nat.le_refl _ | (simp; done) | (simp; omega)) _)))).mono ?_
    rintro e w1 ⟨rfl, hw⟩
    obtain rfl := hw.symm
    go_wp2_with fail
    ((try simp only [Exit.inBlock, Exit.then]); refine bodyPost_ret (results_tmp3 rfl _ _ _) rfl ?_)
    rw [HST.out]
    exact ⟨t, _, rfl, HT.out.1.bel (by repeat (first | exact Below.refl _ _ | (refine Below.drew ?_) | (refine below_drewN' ?_ _) | (refine below_alloc' ?_ _) | (refine Below.setCell ?_ (by first | exact Nat.le_refl _ | (simp; done) | (simp; omega)) _))), HT.out.2.below (by repeat (first | exact Below.refl _ _ | (refine Below.drew ?_) | (refine below_drewN' ?_ _) | (refine below_alloc' ?_ _) | (refine Below.setCell ?_ (by first | exact Nat.le_refl _ | (simp; done) | (simp; omega)) _))), (by repeat (first | exact Below.refl _ _ | (refine Below.drew ?_) | (refine below_drewN' ?_ _) | (refine below_alloc' ?_ _) | (refine Below.setCell ?_ (by first | exact Nat.le_refl _ | (simp; done) | (simp; omega)) _)))⟩
theorem done_any (w : World) (t k : Nat) (a : Ac) (l : List En) (vin vp : Value) (ht : TrR w t k l) (hin : RdE w vin l) (hl : EtS k l) (hp : RdU w vp (pti a.p)) (ho : a.Ok) :
    Calls Try.prog 19 #[.pointer (some ⟨t, 0, none⟩), vin, .agg #[.bool a.del, vp, .int .u64 (a.v : Nat)]] w fun e w' => DoneP w k (stepL k l a) e w' := by
  obtain ⟨d, p, v⟩ := a
  cases d with
  | true => exact done_del w t k p v l vin vp ht hin hl hp ho
  | false => exact done_put w t k p v l vin vp ht hin hl hp ho
end Go.Proofs.Ytjokcagggmjgmaa
/-! TrG -/
namespace Go.Proofs.Ytjokcagggmjgmaa
open Go.RowKit
set_option linter.unusedVariables false
set_option linter.unusedSimpArgs false

/-- an act at a block's offset -/
def AcAt (w : World) (b o : Nat) (a : Ac) : Prop := ∃ u, w.cell? ⟨b, o, none⟩ = some (.bool a.del) ∧ w.cell? ⟨b, o + 1, none⟩ = some u ∧ RdU w u (pti a.p) ∧ w.cell? ⟨b, o + 2, none⟩ = some (.int .u64 (a.v : Nat))
theorem AcAt.keep {w w' : World} {b o : Nat} {a : Ac} (h : AcAt w b o a) (hk : ∀ a x, w.cell? a = some x → w'.cell? a = some x) : AcAt w' b o a := by
  obtain ⟨u, h0, h1, h2, h3⟩ := h
  exact ⟨u, hk _ _ h0, hk _ _ h1, RdU.keep h2 hk, hk _ _ h3⟩
/-- the slice value v reads as the list l of acts -/
def RdA (w : World) (v : Value) (l : List Ac) : Prop :=
  ∃ A c, v = .slice A l.length c ∧ (0 < l.length → ∃ b o, A = some ⟨b, o, none⟩ ∧ ∀ j (h : j < l.length), AcAt w b (o + j * 3) l[j])
theorem RdA.keep {w w' : World} {v : Value} {l : List Ac} (h : RdA w v l) (hk : ∀ a x, w.cell? a = some x → w'.cell? a = some x) : RdA w' v l := by
  obtain ⟨A, c, e, h⟩ := h
  exact ⟨A, c, e, fun hp => let ⟨b, o, ha, hc⟩ := h hp; ⟨b, o, ha, fun j hj => (hc j hj).keep hk⟩⟩
theorem RdA.below {w w' : World} {v : Value} {l : List Ac} (h : RdA w v l) (hb : Below w.heap.size w w') : RdA w' v l := RdA.keep h (Below.keeps hb)
def playL (k : Nat) (l : List En) (acts : List Ac) : List En := acts.foldl (stepL k) l
theorem play_take (k : Nat) (l : List En) (acts : List Ac) (j : Nat) (h : j < acts.length) : playL k l (acts.take (j + 1)) = stepL k (playL k l (acts.take j)) acts[j] := by
  unfold playL
  rw [← List.take_append_getElem h, List.foldl_append]
  rfl
theorem play_len (k : Nat) (l : List En) (acts : List Ac) : (playL k l acts).length ≤ l.length + acts.length := by
  induction acts generalizing l with
  | nil => exact Nat.le_refl _
  | cons a acts ih =>
    have h1 := ih (stepL k l a)
    have h2 := step_len k l a
    show (playL k (stepL k l a) acts).length ≤ _
    simp only [List.length_cons]
    omega
theorem Et.play {k : Nat} {l : List En} (h : Et k l) (acts : List Ac) (ho : ∀ a ∈ acts, a.Ok) : Et k (playL k l acts) := by
  induction acts generalizing l with
  | nil => exact h
  | cons a acts ih => exact ih (h.step a (ho a (by simp))) fun b hb => ho b (by simp [hb])
theorem EtS.play {k : Nat} {l : List En} (h : EtS k l) (acts : List Ac) (ho : ∀ a ∈ acts, a.Ok) (hs : l.length + acts.length ≤ 1000) : EtS k (playL k l acts) :=
  ⟨h.et.play acts ho, h.k40, Nat.le_trans (play_len k l acts) hs⟩
def heavyL (l : List Ac) (most : Int) : Bool := decide ((l.length : Int) > most) || l.any fun a => decide (a.p.length > 40)
set_option maxRecDepth 100000
theorem heavyA_any (w : World) (l : List Ac) (v : Value) (most : Int) (hv : RdA w v l) (hl : l.length ≤ maxLen) :
    Calls Try.prog 8 #[v, .int .i64 most] w fun e w' => e = .returned (.bool (heavyL l most)) ∧ w' = w := by
  obtain ⟨A, c, rfl, hx⟩ := hv
  have HX := Lib.hid hx
  have HL := Lib.hid (show l.length ≤ 9223372036854775807 from Nat.le_trans hl (by decide))
  clear hx hl
  by_cases hm : (l.length : Int) > most
  · have HH := Lib.hid (show heavyL l most = true by unfold heavyL; rw [decide_eq_true hm]; rfl)
    go_enter Try.func8, Try.ntmps8
    go_wp2_with fail
    go_ret
    exact ⟨by rw [HH.out] <;> rfl, rfl⟩
  · have hh : heavyL l most = l.any fun a => decide (a.p.length > 40) := by unfold heavyL; rw [decide_eq_false hm]; rfl
    have HH := Lib.hid hh
    clear hh
    go_enter Try.func8, Try.ntmps8
    go_wp2_with fail
    go_loopw [5] (fun iv wr => ∃ j : Nat, j ≤ l.length ∧ iv = .int .i64 (j : Nat) ∧ wr = w ∧ (l.take j).any (fun a => decide (a.p.length > 40)) = false) (fun iv _ => l.length - (intOf iv).toNat)
    case atStart => exact ⟨0, Nat.zero_le _, rfl, rfl, by simp⟩
    case round =>
      obtain ⟨j, hj, rfl, hw, hany⟩ := hrel
      subst hw
      by_cases hlt : j < l.length
      · have h3 : (j : Int) < (l.length : Int) := by omega
        have h5 : (0 : Int) ≤ (j : Int) := by omega
        have HW := Lib.hid (show wrap64 ((j : Int) + 1) = ((j + 1 : Nat) : Int) by have := HL.out; unfold wrap64; omega)
        obtain ⟨b2, o2, rfl, hc⟩ := HX.out (by omega)
        obtain ⟨u, k0, k1, ku, k2⟩ := hc j hlt
        have htk : (l.take (j + 1)).any (fun a => decide (a.p.length > 40)) = decide (l[j].p.length > 40) := by rw [← List.take_append_getElem hlt, List.any_append, hany]; simp
        have hall : decide (l[j].p.length > 40) = true → (l.any fun a => decide (a.p.length > 40)) = true := fun h => List.any_eq_true.2 ⟨_, List.getElem_mem hlt, h⟩
        have HT := Lib.hid (And.intro htk hall)
        have hlb := World.block_lt_of_cell? _ _ k0
        obtain ⟨Au, cu, rfl, _⟩ := RdU.point ku
        generalize l[j] = ac at *
        clear hc htk hall ku hany
        by_cases h40 : (ac.p.length : Int) > 40
        · go_wp2_with fail
          go_ret
          exact ⟨by rw [HH.out, HT.out.2 (by simp; omega)] <;> rfl, rfl⟩
        · go_wp2_with fail
          go_roundw
          case rel => exact ⟨j + 1, by omega, (by first | rw [HW.out] | rfl | simp), (by first | rfl | trivial), by rw [HT.out.1]; simp; omega⟩
          case measure => (first | (rw [intOf_of' HW.out, intOf_of' rfl]; omega) | (simp [intOf]; omega) | (simp [intOf] <;> omega))
      · have h3 : ¬ (j : Int) < (l.length : Int) := by omega
        rw [List.take_of_length_le (by omega)] at hany
        have HA := Lib.hid hany
        clear hany
        go_wp2_with fail
        go_ret
        exact ⟨by rw [HH.out, HA.out] <;> rfl, rfl⟩
set_option maxHeartbeats 4000000 in
theorem grown_any (w : World) (k : Nat) (acts : List Ac) (v : Value) (k1 : 1 ≤ k) (k16 : k ≤ 16) (hv : RdA w v acts) (ho : ∀ a ∈ acts, a.Ok) (hl : acts.length ≤ 900) :
    Calls Try.prog 16 #[.int .i64 (k : Nat), v] w fun e w' => DoneP w k (playL k [] acts) e w' := by
  have HNW := Lib.hid (tnew_any w k k1 k16)
  have HD := Lib.hid (And.intro k16 hl)
  have HA := Lib.hid hv
  have HO := Lib.hid ho
  obtain ⟨A, c, rfl, hx⟩ := hv
  have HX := Lib.hid hx
  clear k1 k16 ho hl hx
  go_enter Try.func16, Try.ntmps16
  go_wp2_with fail
  refine HNW.out.mono ?_
  rintro e w1 ⟨t, rfl, ht, hb⟩
  have HT := Lib.hid (And.intro ht hb)
  clear ht hb
  go_wp2_with fail
  go_loopw [7, 9, 10, 11, 12, 13] (fun tv vin iv _ _ _ wr => ∃ (t' j : Nat), j ≤ acts.length ∧ tv = .pointer (some ⟨t', 0, none⟩) ∧ iv = .int .i64 (j : Nat) ∧ TrR wr t' k (playL k [] (acts.take j)) ∧ RdE wr vin (playL k [] (acts.take j)) ∧ Below w.heap.size w wr) (fun _ _ iv _ _ _ _ => acts.length - (intOf iv).toNat)
  case atStart => exact ⟨t, 0, Nat.zero_le _, rfl, rfl, HT.out.1.bel (by repeat (first | exact Below.refl _ _ | (refine Below.drew ?_) | (refine below_drewN' ?_ _) | (refine below_alloc' ?_ _) | (refine Below.setCell ?_ (by first | exact Nat.le_refl _ | (simp; done) | (simp; omega)) _))), ⟨_, _, rfl, ⟨Nat.le_refl _, Nat.zero_le _, fun h => absurd h (by omega)⟩, fun h => absurd h (by simp [playL])⟩, (by repeat (first | exact HT.out.2 | (refine Below.drew ?_) | (refine below_alloc' ?_ _)))⟩
  case round =>
    obtain ⟨t', j, hj, rfl, rfl, ht, hin, hb⟩ := hrel
    by_cases hlt : j < acts.length
    · have h3 : (j : Int) < (acts.length : Int) := by omega
      have h5 : (0 : Int) ≤ (j : Int) := by omega
      have HW := Lib.hid (show wrap64 ((j : Int) + 1) = ((j + 1 : Nat) : Int) by have := HD.out.2; unfold wrap64; omega)
      obtain ⟨b2, o2, rfl, hc⟩ := HX.out (by omega)
      obtain ⟨u, k0, k1, ku, k2⟩ := (hc j hlt).keep (Below.keeps hb)
      have hoj := HO.out acts[j] (List.getElem_mem hlt)
      have hpl := play_take k [] acts j hlt
      have HES : EtS k (playL k [] (acts.take j)) := EtS.play ⟨Et.nil k, by have := HD.out.1; omega, by simp⟩ _ (fun a ha => HO.out a (List.mem_of_mem_take ha)) (by rw [List.length_nil, List.length_take]; have := HD.out.2; omega)
      have HDN := Lib.hid (done_any wr t' k acts[j] _ _ _ ht hin HES ku hoj)
      rw [← hpl] at HDN
      have HB := Lib.hid hb
      have hlb := World.block_lt_of_cell? wr _ k0
      obtain ⟨Au, cu, rfl, _⟩ := RdU.point ku
      obtain ⟨AI, cI, rfl, _⟩ := hin
      generalize acts[j] = ac at *
      generalize playL k [] (acts.take j) = l1 at *
      clear hc hoj HES hpl hb ht ku
      go_wp2_with fail
      refine HDN.out.mono ?_
      rintro e w2 ⟨t2, vin2, rfl, ht2, hin2, hb2⟩
      have HN := Lib.hid (And.intro ht2 (And.intro hin2 (HB.out.trans (hb2.mono HB.out.size))))
      clear ht2 hin2 hb2
      go_wp2_with fail
      go_roundw
      case rel => exact ⟨t2, j + 1, by omega, rfl, (by first | rw [HW.out] | rfl | simp), HN.out.1, HN.out.2.1, HN.out.2.2⟩
      case measure => (first | (rw [intOf_of' HW.out, intOf_of' rfl]; omega) | (simp [intOf]; omega) | (simp [intOf] <;> omega))
    · have h3 : ¬ (j : Int) < (acts.length : Int) := by omega
      have e : acts.take j = acts := List.take_of_length_le (by omega)
      rw [e] at ht hin
      have HN := Lib.hid (And.intro ht (And.intro hin hb))
      obtain ⟨AI, cI, rfl, _⟩ := hin
      clear ht hb
      go_wp2_with fail
      ((try simp only [Exit.inBlock, Exit.then]); refine bodyPost_ret (results_tmp3 rfl _ _ _) rfl ?_)
      exact ⟨t', _, rfl, HN.out⟩
end Go.Proofs.Ytjokcagggmjgmaa
/-! TwoA -/
namespace Go.Proofs.Ytjokcagggmjgmaa
open Go.RowKit
set_option linter.unusedVariables false
set_option linter.unusedSimpArgs false
set_option maxRecDepth 100000

def TwoP (W : World) (k : Nat) (a b : List En) (e : Ending) (w' : World) : Prop := ∃ t u va vb, e = .returned (.tuple #[.pointer (some ⟨t, 0, none⟩), .pointer (some ⟨u, 0, none⟩), va, vb, .bool true]) ∧ TrR w' t k a ∧ TrR w' u k b ∧ RdE w' va a ∧ RdE w' vb b ∧ Below W.heap.size W w'
set_option maxHeartbeats 4000000 in
theorem two_any (w : World) (k : Nat) (l acts : List Ac) (vl v : Value) (k1 : 1 ≤ k) (k16 : k ≤ 16) (hvl : RdA w vl l) (hv : RdA w v acts) (hol : ∀ a ∈ l, a.Ok) (ho : ∀ a ∈ acts, a.Ok) (hl : l.length + acts.length ≤ 900) :
    Calls Try.prog 9 #[.int .i64 (k : Nat), vl, v] w fun e w' => TwoP w k (playL k [] l) (playL k (playL k [] l) acts) e w' := by
  have HGR := Lib.hid (grown_any w k l vl k1 k16 hvl hol (by omega))
  have hes : EtS k (playL k [] l) := EtS.play ⟨Et.nil k, by omega, by simp⟩ _ hol (by simp; omega)
  have hln : (playL k [] l).length + acts.length ≤ 900 := by have := play_len k [] l; simp at this; omega
  have HD := Lib.hid (And.intro hes hln)
  have HO := Lib.hid ho
  have HV := Lib.hid hv
  obtain ⟨A, c, rfl, hx⟩ := hv
  obtain ⟨A2, c2, rfl, _⟩ := hvl
  clear k1 k16 ho hl hx hol hes hln
  generalize playL k [] l = in_ at *
  go_enter Try.func9, Try.ntmps9
  go_wp2_with fail
  refine HGR.out.mono ?_
  rintro e w1 ⟨t, va, rfl, ht, hin, hb⟩
  have HT := Lib.hid (And.intro ht (And.intro hin hb))
  have HX := Lib.hid (HV.out.below hb)
  obtain ⟨A3, c3, rfl, _⟩ := hin
  clear ht hb
  go_wp2_with fail
  go_loopw [14, 15, 16] (fun tv vin iv wr => ∃ (t' j : Nat), j ≤ acts.length ∧ tv = .pointer (some ⟨t', 0, none⟩) ∧ iv = .int .i64 (j : Nat) ∧ TrR wr t' k (playL k in_ (acts.take j)) ∧ RdE wr vin (playL k in_ (acts.take j)) ∧ Below w1.heap.size w1 wr) (fun _ _ iv _ => acts.length - (intOf iv).toNat)
  case atStart => exact ⟨t, 0, Nat.zero_le _, rfl, rfl, HT.out.1.bel (by repeat (first | exact Below.refl _ _ | (refine Below.drew ?_) | (refine below_drewN' ?_ _) | (refine below_alloc' ?_ _) | (refine Below.setCell ?_ (by first | exact Nat.le_refl _ | (simp; done) | (simp; omega)) _))), HT.out.2.1.below (by repeat (first | exact Below.refl _ _ | (refine Below.drew ?_) | (refine below_drewN' ?_ _) | (refine below_alloc' ?_ _) | (refine Below.setCell ?_ (by first | exact Nat.le_refl _ | (simp; done) | (simp; omega)) _))), (by repeat (first | exact Below.refl _ _ | (refine Below.drew ?_) | (refine below_drewN' ?_ _) | (refine below_alloc' ?_ _) | (refine Below.setCell ?_ (by first | exact Nat.le_refl _ | (simp; done) | (simp; omega)) _)))⟩
  case round =>
    obtain ⟨t', j, hj, rfl, rfl, ht, hin, hb⟩ := hrel
    by_cases hlt : j < acts.length
    · have h3 : (j : Int) < (acts.length : Int) := by omega
      have h5 : (0 : Int) ≤ (j : Int) := by omega
      have HW := Lib.hid (show wrap64 ((j : Int) + 1) = ((j + 1 : Nat) : Int) by have := HD.out.2; unfold wrap64; omega)
      obtain ⟨A', c', e', hx⟩ := HX.out
      simp only [Value.slice.injEq] at e'
      obtain ⟨rfl, _, rfl⟩ := e'
      obtain ⟨b2, o2, rfl, hc⟩ := hx (by omega)
      obtain ⟨u, k0, k1, ku, k2⟩ := (hc j hlt).keep (Below.keeps hb)
      have hoj := HO.out acts[j] (List.getElem_mem hlt)
      have hpl := play_take k in_ acts j hlt
      have HES : EtS k (playL k in_ (acts.take j)) := EtS.play HD.out.1 _ (fun a ha => HO.out a (List.mem_of_mem_take ha)) (by rw [List.length_take]; have := HD.out.2; omega)
      have HDN := Lib.hid (done_any wr t' k acts[j] _ _ _ ht hin HES ku hoj)
      rw [← hpl] at HDN
      have HB := Lib.hid hb
      have hlb := World.block_lt_of_cell? wr _ k0
      obtain ⟨Au, cu, rfl, _⟩ := RdU.point ku
      obtain ⟨AI, cI, rfl, _⟩ := hin
      generalize acts[j] = ac at *
      generalize playL k in_ (acts.take j) = l1 at *
      clear hc hoj HES hpl hb ht ku hx
      go_wp2_with fail
      refine HDN.out.mono ?_
      rintro e w2 ⟨t2, vin2, rfl, ht2, hin2, hb2⟩
      have HN := Lib.hid (And.intro ht2 (And.intro hin2 (HB.out.trans (hb2.mono HB.out.size))))
      clear ht2 hin2 hb2
      go_wp2_with fail
      go_roundw
      case rel => exact ⟨t2, j + 1, by omega, rfl, (by first | rw [HW.out] | rfl | simp), HN.out.1, HN.out.2.1, HN.out.2.2⟩
      case measure => (first | (rw [intOf_of' HW.out, intOf_of' rfl]; omega) | (simp [intOf]; omega) | (simp [intOf] <;> omega))
    · have h3 : ¬ (j : Int) < (acts.length : Int) := by omega
      have e : acts.take j = acts := List.take_of_length_le (by omega)
      rw [e] at ht hin
      have HN := Lib.hid (And.intro ht (And.intro hin hb))
      obtain ⟨AI, cI, rfl, _⟩ := hin
      clear ht hb
      go_wp2_with fail
      (try simp only [Exit.inBlock, Exit.then])
      refine bodyPost_ret (v := .tuple #[.pointer (some ⟨t, 0, none⟩), .pointer (some ⟨t', 0, none⟩), .slice A3 in_.length c3, .slice AI (playL k in_ acts).length cI, .bool true]) (by simp [results, Try.results9, go_sem]) rfl ?_
      exact ⟨t, t', _, _, rfl, HT.out.1.bel HN.out.2.2, HN.out.1, HT.out.2.1.below HN.out.2.2, HN.out.2.1, HT.out.2.2.trans (HN.out.2.2.mono HT.out.2.2.size)⟩
end Go.Proofs.Ytjokcagggmjgmaa
/-! DifP -/
namespace Go.Proofs.Ytjokcagggmjgmaa
open Go.RowKit
set_option linter.unusedVariables false

def goneC (e : En) : Ch := ⟨e.p, true, false, e.v, 0⟩
def comeC (e : En) : Ch := ⟨e.p, false, true, 0, e.v⟩
def chgE : Option En → Option En → Option Ch
  | none, none => none
  | some x, none => some (goneC x)
  | none, some y => some (comeC y)
  | some x, some y => if x.v = y.v then none else some ⟨x.p, true, true, x.v, y.v⟩
theorem Et.look_p {k : Nat} {l : List En} (h : Et k l) {n : Nat} {x : En} (hx : Od.look En.key l n = some x) {p : List Nat} (hp : p.length = k) (ho : ∀ c ∈ p, c < 2 ^ 64) (hn : pkey p = n) : x.p = p := by
  obtain ⟨h1, h2⟩ := Od.look_some hx
  exact key_pt h hp ho h1 (by rw [h2, hn])
theorem chg_look {k : Nat} {a b : List En} (ha : Et k a) (hb : Et k b) (n : Nat) : Od.look Ch.key (changesL a b) n = chgE (Od.look En.key a n) (Od.look En.key b n) := by
  obtain ⟨_, h2⟩ := changesL_spec ha hb
  obtain ⟨p1, p2⟩ := pointsL_spec hb a ha
  have hi := p2 n
  rw [h2 n]
  cases e : Od.look En.key (pointsL a b) n with
  | none =>
    rw [e] at hi
    cases ea : Od.look En.key a n with
    | some x => rw [ea] at hi; simp at hi
    | none =>
      cases eb : Od.look En.key b n with
      | some y => rw [ea, eb] at hi; simp at hi
      | none => rfl
  | some z =>
    rw [e] at hi
    obtain ⟨hz1, hz2⟩ := Od.look_some e
    have hzk : pkey z.p = n := hz2
    have hzl := p1.len z hz1
    have hzo := p1.ok z hz1
    show changeL a b z.p = _
    unfold changeL getE
    rw [hzk]
    cases ea : Od.look En.key a n with
    | none =>
      cases eb : Od.look En.key b n with
      | none => rw [ea, eb] at hi; simp at hi
      | some y =>
        have e1 := hb.look_p eb hzl hzo hzk
        simp [changeOf, chgE, comeC, e1]
    | some x =>
      have e1 := ha.look_p ea hzl hzo hzk
      cases eb : Od.look En.key b n with
      | none => simp [changeOf, chgE, goneC, e1]
      | some y =>
        simp only [changeOf, chgE, Option.map_some, Option.isSome_some, Option.getD_some, e1]
        by_cases hv : x.v = y.v
        · simp [hv]
        · rw [if_neg hv, if_pos (by simp; omega)]
theorem chg_asc {k : Nat} {a b : List En} (ha : Et k a) (hb : Et k b) : Od.Asc Ch.key (changesL a b) := (changesL_spec ha hb).1
theorem look_append {α : Type} (key : α → Nat) (l m : List α) (n : Nat) : Od.look key (l ++ m) n = (Od.look key l n).or (Od.look key m n) := List.find?_append
theorem look_map' {α β : Type} {key : α → Nat} {key' : β → Nat} (f : α → β) (h : ∀ x, key' (f x) = key x) (l : List α) (n : Nat) : Od.look key' (l.map f) n = (Od.look key l n).map f := by
  induction l with
  | nil => rfl
  | cons x l ih =>
    rw [List.map_cons, Od.look_cons, Od.look_cons, h, ih]
    split <;> rfl
theorem asc_map {α β : Type} {key : α → Nat} {key' : β → Nat} (f : α → β) (h : ∀ x, key' (f x) = key x) {l : List α} (hl : Od.Asc key l) : Od.Asc key' (l.map f) := by
  unfold Od.Asc
  rw [List.pairwise_map]
  exact hl.imp fun {a b} hab => by rw [h, h]; exact hab
theorem chg_gone {k : Nat} {a : List En} (ha : Et k a) : changesL a [] = a.map goneC := by
  refine Od.ext (key := Ch.key) (chg_asc ha (Et.nil k)) (asc_map goneC (fun _ => rfl) ha.asc) fun n => ?_
  rw [chg_look ha (Et.nil k), look_map' goneC (key := En.key) (fun _ => rfl)]
  cases Od.look En.key a n <;> rfl
theorem chg_come {k : Nat} {b : List En} (hb : Et k b) : changesL [] b = b.map comeC := by
  refine Od.ext (key := Ch.key) (chg_asc (Et.nil k) hb) (asc_map comeC (fun _ => rfl) hb.asc) fun n => ?_
  rw [chg_look (Et.nil k) hb, look_map' comeC (key := En.key) (fun _ => rfl)]
  cases Od.look En.key b n <;> rfl
theorem chg_self {k : Nat} {a : List En} (ha : Et k a) : changesL a a = [] := by
  refine Od.ext (key := Ch.key) (chg_asc ha ha) List.Pairwise.nil fun n => ?_
  rw [chg_look ha ha]
  cases Od.look En.key a n with
  | none => rfl
  | some x => simp [chgE, Od.look_nil]
theorem chg_mem {k : Nat} {a b : List En} (ha : Et k a) (hb : Et k b) {c : Ch} (hc : c ∈ changesL a b) : (∃ x ∈ a, x.key = c.key) ∨ (∃ y ∈ b, y.key = c.key) := by
  have h := Od.look_mem (key := Ch.key) (chg_asc ha hb) hc
  rw [chg_look ha hb] at h
  cases ea : Od.look En.key a c.key with
  | some x => exact .inl ⟨x, (Od.look_some ea).1, (Od.look_some ea).2⟩
  | none =>
    cases eb : Od.look En.key b c.key with
    | some y => exact .inr ⟨y, (Od.look_some eb).1, (Od.look_some eb).2⟩
    | none => rw [ea, eb] at h; cases h
/-- all of the first two lie ahead of all of the other two -/
def Ahead (a b : List En) : Prop := ∀ x ∈ a, ∀ y ∈ b, x.key < y.key
theorem Et.app {k : Nat} {a b : List En} (ha : Et k a) (hb : Et k b) (h : Ahead a b) : Et k (a ++ b) :=
  ⟨List.pairwise_append.2 ⟨ha.asc, hb.asc, h⟩, fun e he => (List.mem_append.1 he).elim (ha.len e) (hb.len e), fun e he => (List.mem_append.1 he).elim (ha.ok e) (hb.ok e)⟩
theorem chg_append {k : Nat} {a1 a2 b1 b2 : List En} (h1 : Et k a1) (h2 : Et k a2) (h3 : Et k b1) (h4 : Et k b2) (x1 : Ahead a1 a2) (x2 : Ahead a1 b2) (x3 : Ahead b1 a2) (x4 : Ahead b1 b2) :
    changesL (a1 ++ a2) (b1 ++ b2) = changesL a1 b1 ++ changesL a2 b2 := by
  have ea := h1.app h2 x1
  have eb := h3.app h4 x4
  refine Od.ext (key := Ch.key) (chg_asc ea eb) (List.pairwise_append.2 ⟨chg_asc h1 h3, chg_asc h2 h4, fun c hc d hd => ?_⟩) fun n => ?_
  · rcases chg_mem h1 h3 hc with ⟨x, hx, ex⟩ | ⟨x, hx, ex⟩ <;> rcases chg_mem h2 h4 hd with ⟨y, hy, ey⟩ | ⟨y, hy, ey⟩
    · have := x1 x hx y hy; omega
    · have := x2 x hx y hy; omega
    · have := x3 x hx y hy; omega
    · have := x4 x hx y hy; omega
  · rw [chg_look ea eb, look_append, look_append, look_append, chg_look h1 h3, chg_look h2 h4]
    have key : ∀ {l m : List En}, Ahead l m → ∀ {x}, Od.look En.key l n = some x → Od.look En.key m n = none := fun hlm x hx => by
      obtain ⟨q1, q2⟩ := Od.look_some hx
      exact Od.look_eq_none fun y hy => by have := hlm x q1 y hy; omega
    cases e1 : Od.look En.key a1 n with
    | some x =>
      rw [key x1 e1, key x2 e1]
      cases e3 : Od.look En.key b1 n with
      | some y => show chgE (some x) (some y) = (chgE (some x) (some y)).or none; rw [Option.or_none]
      | none => rfl
    | none =>
      cases e3 : Od.look En.key b1 n with
      | some y => rw [key x3 e3, key x4 e3]; rfl
      | none => rfl
theorem Ahead.nil_l (b : List En) : Ahead [] b := fun x hx => by simp at hx
theorem Ahead.nil_r (a : List En) : Ahead a [] := fun x _ y hy => by simp at hy
theorem chg_before {k : Nat} {a b : List En} (ha : Et k a) (hb : Et k b) (h : Ahead a b) : changesL a b = a.map goneC ++ b.map comeC := by
  have := chg_append ha (Et.nil k) (Et.nil k) hb (Ahead.nil_r a) h (Ahead.nil_l _) (Ahead.nil_l _)
  rw [List.append_nil, List.nil_append, chg_gone ha, chg_come hb] at this
  exact this
theorem chg_behind {k : Nat} {a b : List En} (ha : Et k a) (hb : Et k b) (h : Ahead b a) : changesL a b = b.map comeC ++ a.map goneC := by
  have := chg_append (Et.nil k) ha hb (Et.nil k) (Ahead.nil_l _) (Ahead.nil_l _) h (Ahead.nil_r b)
  rw [List.append_nil, List.nil_append, chg_gone ha, chg_come hb] at this
  exact this
theorem changes_len {k : Nat} {a b : List En} (ha : Et k a) (hb : Et k b) : (changesL a b).length ≤ a.length + b.length := by
  have h1 : (pointsL a b).length ≤ a.length + b.length := by
    have key : ∀ (b a : List En), (pointsL a b).length ≤ a.length + b.length := by
      intro b
      induction b with
      | nil => intro a; exact Nat.le_refl _
      | cons e b ih =>
        intro a
        unfold pointsL
        refine Nat.le_trans (ih _) ?_
        have : (insE e.p 0 a).length ≤ a.length + 1 := Od.ins_length
        simp only [List.length_cons]
        omega
    exact key b a
  exact Nat.le_trans (List.length_filterMap_le _ _) h1
end Go.Proofs.Ytjokcagggmjgmaa
/-! FitP -/
namespace Go.Proofs.Ytjokcagggmjgmaa
open Go.RowKit
set_option linter.unusedVariables false

end Go.Proofs.Ytjokcagggmjgmaa
/-! DifR -/
namespace Go.Proofs.Ytjokcagggmjgmaa
open Go.RowKit
set_option linter.unusedVariables false

/-- a change between two lists, by its key -/
theorem chg_at {k : Nat} {a b : List En} (ha : Et k a) (hb : Et k b) {c : Ch} (hc : c ∈ changesL a b) : chgE (Od.look En.key a c.key) (Od.look En.key b c.key) = some c := by
  rw [← chg_look ha hb]
  exact Od.look_mem (changesL_spec ha hb).1 hc
theorem chg_rt {k : Nat} {a b : List En} (ha : Et k a) (hb : Et k b) : Rt k (changesL a b) := by
  have key : ∀ c ∈ changesL a b, c.p.length = k ∧ c.right = true ∧ ∀ x ∈ c.p, x < 2 ^ 64 := fun c hc => by
    have h := chg_at ha hb hc
    cases ea : Od.look En.key a c.key with
    | none =>
      cases eb : Od.look En.key b c.key with
      | none => rw [ea, eb] at h; cases h
      | some y =>
        rw [ea, eb] at h
        obtain ⟨h1, h2⟩ := Od.look_some eb
        injection h with h
        rw [← h]
        exact ⟨hb.len y h1, by simp [comeC, Ch.right, rightBits], hb.ok y h1⟩
    | some x =>
      obtain ⟨h1, h2⟩ := Od.look_some ea
      cases eb : Od.look En.key b c.key with
      | none =>
        rw [ea, eb] at h
        injection h with h
        rw [← h]
        exact ⟨ha.len x h1, by simp [goneC, Ch.right, rightBits], ha.ok x h1⟩
      | some y =>
        rw [ea, eb] at h
        simp only [chgE] at h
        split at h
        · cases h
        · rename_i hne
          injection h with h
          rw [← h]
          exact ⟨ha.len x h1, by simp [Ch.right, rightBits]; omega, ha.ok x h1⟩
  exact ⟨fun c hc => (key c hc).1, fun c hc => (key c hc).2.1, (changesL_spec ha hb).1, fun c hc => (key c hc).2.2⟩
end Go.Proofs.Ytjokcagggmjgmaa
/-! ChnP -/
namespace Go.Proofs.Ytjokcagggmjgmaa
open Go.RowKit
set_option linter.unusedVariables false
set_option linter.unusedSimpArgs false

/-- what the changes of one point come to -/
theorem comb_chg (A B C : Option En) (h1 : ∀ x y, A = some x → B = some y → x.p = y.p) (h2 : ∀ x y, B = some x → C = some y → x.p = y.p) (h3 : ∀ x y, A = some x → C = some y → x.p = y.p) :
    fitC (chgE A B, chgE B C) = true ∧ combC (chgE A B, chgE B C) = chgE A C := by
  cases A with
  | none =>
    cases B with
    | none => cases C <;> simp [chgE, fitC, combC]
    | some y =>
      cases C with
      | none => simp [chgE, fitC, combC, comeC, goneC, joinC, Ch.right, rightBits]
      | some z =>
        have e := h2 y z rfl rfl
        by_cases hv : y.v = z.v
        · simp [chgE, fitC, combC, comeC, hv, e]
        · simp [chgE, fitC, combC, comeC, hv, e, joinC, Ch.right, rightBits]
  | some x =>
    cases B with
    | none =>
      cases C with
      | none => simp [chgE, fitC, combC]
      | some z =>
        have e := h3 x z rfl rfl
        by_cases hv : x.v = z.v
        · simp [chgE, fitC, combC, comeC, goneC, hv, e, joinC, Ch.right, rightBits]
        · have : ¬ (x.v : Int) = z.v := by omega
          simp [chgE, fitC, combC, comeC, goneC, hv, e, joinC, Ch.right, rightBits, this]
    | some y =>
      have e := h1 x y rfl rfl
      cases C with
      | none =>
        by_cases hv : x.v = y.v
        · simp [chgE, fitC, combC, goneC, hv, e]
        · simp [chgE, fitC, combC, goneC, hv, e, joinC, Ch.right, rightBits]
      | some z =>
        have e2 := h2 y z rfl rfl
        by_cases hv : x.v = y.v
        · by_cases hw : y.v = z.v
          · have hz : x.v = z.v := hv.trans hw
            simp [chgE, fitC, combC, hv, hw]
          · have hz : ¬ x.v = z.v := by omega
            simp [chgE, fitC, combC, hv, hw, e, e2]
        · by_cases hw : y.v = z.v
          · have hz : ¬ x.v = z.v := by omega
            simp [chgE, fitC, combC, hv, hw, hz]
          · by_cases hz : x.v = z.v
            · have hv' : ¬ z.v = y.v := fun h => hw h.symm
              simp [chgE, fitC, combC, hv', hw, hz, joinC, Ch.right, rightBits]
            · have : ¬ (x.v : Int) = z.v := by omega
              simp [chgE, fitC, combC, hv, hw, hz, joinC, Ch.right, rightBits, this]
theorem chg_then {k : Nat} {a b c : List En} (ha : Et k a) (hb : Et k b) (hc : Et k c) : thenL (changesL a b) (changesL b c) = some (changesL a c) := by
  have rx := chg_rt ha hb
  have ry := chg_rt hb hc
  obtain ⟨s1, s2, s3⟩ := pairsL_spec ((changesL a b).length + (changesL b c).length) _ _ (Nat.le_refl _) rx.asc ry.asc
  have pt : ∀ {l m : List En} (hl : Et k l) (hm : Et k m) (n : Nat) x y, Od.look En.key l n = some x → Od.look En.key m n = some y → x.p = y.p := fun {l m} hl hm n x y h1 h2 => by
    obtain ⟨q1, q2⟩ := Od.look_some h2
    exact hl.look_p h1 (hm.len y q1) (hm.ok y q1) q2
  have at' : ∀ n, fitC (chgE (Od.look En.key a n) (Od.look En.key b n), chgE (Od.look En.key b n) (Od.look En.key c n)) = true ∧ combC (chgE (Od.look En.key a n) (Od.look En.key b n), chgE (Od.look En.key b n) (Od.look En.key c n)) = chgE (Od.look En.key a n) (Od.look En.key c n) := fun n =>
    comb_chg _ _ _ (pt ha hb n) (pt hb hc n) (pt ha hc n)
  have hall : (pairs (changesL a b) (changesL b c)).all fitC = true := by
    rw [List.all_eq_true]
    intro p hp
    have e3 := Od.look_mem s1 hp
    rw [s2] at e3
    split at e3
    · cases e3
    · injection e3 with e3
      rw [← e3, chg_look ha hb, chg_look hb hc]
      exact (at' _).1
  have hth : thenL (changesL a b) (changesL b c) = some ((pairs (changesL a b) (changesL b c)).filterMap combC) := by
    unfold thenL; rw [if_pos hall]
  rw [hth]
  congr 1
  have ck : ∀ p ∈ pairs (changesL a b) (changesL b c), ∀ y, combC p = some y → y.key = keyC p := by
    rintro ⟨p1, p2⟩ hp y hy
    cases p1 with
    | none => cases p2 with
      | none => cases hy
      | some z => unfold combC at hy; injection hy with hy; subst hy; rfl
    | some x => cases p2 with
      | none => unfold combC at hy; injection hy with hy; subst hy; rfl
      | some z =>
        unfold combC at hy
        simp only at hy
        split at hy
        · injection hy with hy; subst hy; rfl
        · cases hy
  obtain ⟨f1, f2⟩ := Od.asc_filterMap (key' := Ch.key) (f := combC) s1 ck
  refine Od.ext f1 (chg_asc ha hc) fun n => ?_
  have h2 := f2 n
  rw [s2, chg_look ha hb, chg_look hb hc] at h2
  unfold pairs
  rw [h2, chg_look ha hc]
  have h3 := at' n
  split
  · rename_i hn
    rw [hn.1, hn.2] at h3
    exact h3.2
  · exact h3.2
end Go.Proofs.Ytjokcagggmjgmaa
/-! WlkP -/
namespace Go.Proofs.Ytjokcagggmjgmaa
open Go.RowKit
set_option linter.unusedVariables false

theorem fromI_zero (l : List (Nat × Nat)) : fromI l 0 = l[0]? := by
  unfold fromI
  cases l with
  | nil => rfl
  | cons x l => simp
theorem fromI_skip {x : Nat × Nat} {l : List (Nat × Nat)} {a : Int} (h : (x.1 : Int) < a) : fromI (x :: l) a = fromI l a := by
  unfold fromI
  rw [List.find?_cons_of_neg]
  simp; omega
theorem fromI_hit {x : Nat × Nat} {l : List (Nat × Nat)} {a : Int} (h : a ≤ (x.1 : Int)) : fromI (x :: l) a = some x := by
  unfold fromI
  rw [List.find?_cons_of_pos]
  simpa using h
theorem fromI_next {l : List (Nat × Nat)} (h : Od.Asc ka l) (j : Nat) (hj : j < l.length) : fromI l (((l[j].1 : Nat) : Int) + 1) = l[j + 1]? := by
  induction l generalizing j with
  | nil => simp at hj
  | cons x l ih =>
    cases j with
    | zero =>
      rw [List.getElem_cons_zero, fromI_skip (by omega)]
      cases l with
      | nil => rfl
      | cons y l =>
        have : x.1 < y.1 := h.head y (List.mem_cons_self ..)
        rw [fromI_hit (by omega)]
        rfl
    | succ j =>
      have hj' : j < l.length := by simpa using hj
      have : x.1 < l[j].1 := h.head _ (List.getElem_mem hj')
      rw [List.getElem_cons_succ, fromI_skip (by omega), ih h.tail j hj']
      rfl
/-- what From hands back: the address, the kid -/
def frA (o : Option (Nat × Nat)) : Value := match o with | some x => .int .i64 (x.1 : Nat) | none => .int .i64 0
def frK (o : Option (Nat × Nat)) : Value := match o with | some x => pv (some x.2) | none => .pointer none
theorem frA_some (x : Nat × Nat) : frA (some x) = .int .i64 (x.1 : Nat) := rfl
theorem frK_some (x : Nat × Nat) : frK (some x) = .pointer (some ⟨x.2, 0, none⟩) := rfl
theorem frA_none : frA none = .int .i64 0 := rfl
theorem frK_none : frK none = .pointer none := rfl
theorem nfromV_eq (o : Option (Nat × Nat)) : nfromV o = .tuple #[frA o, frK o] := by cases o <;> rfl
def frO (ks : List (Nat × Nat × List En)) (j : Nat) : Option (Nat × Nat) := (ks.map kb)[j]?
theorem frO_some {ks : List (Nat × Nat × List En)} {j : Nat} (h : j < ks.length) : frO ks j = some (ks[j].1, ks[j].2.1) := by
  unfold frO; rw [List.getElem?_map, List.getElem?_eq_getElem h]; rfl
theorem frO_none {ks : List (Nat × Nat × List En)} {j : Nat} (h : ¬ j < ks.length) : frO ks j = none := by
  unfold frO; rw [List.getElem?_map, List.getElem?_eq_none (by omega)]; rfl
/-- how far there is to go -/
def kmu (a k : Value) : Nat := match k with | .pointer none => 0 | _ => 65537 - (intOf a).toNat
theorem kmu_some (x b : Nat) : kmu (.int .i64 (x : Nat)) (.pointer (some ⟨b, 0, none⟩)) = 65537 - x := by
  show 65537 - (intOf (.int .i64 (x : Nat))).toNat = _
  rw [intOf_nat, Int.toNat_natCast]
/-- From, kid by kid -/
structure FromK (w : World) (b : Nat) (ks : List (Nat × Nat × List En)) : Prop where
  zero : ∀ w', Below w.heap.size w w' → Calls Try.prog 35 #[.pointer (some ⟨b, 0, none⟩), .int .i64 0] w' fun e w'' => e = .returned (.tuple #[frA (frO ks 0), frK (frO ks 0)]) ∧ Below w'.heap.size w' w''
  next : ∀ j (hj : j < ks.length) w', Below w.heap.size w w' → Calls Try.prog 35 #[.pointer (some ⟨b, 0, none⟩), .int .i64 (((ks[j].1 : Nat) : Int) + 1)] w' fun e w'' => e = .returned (.tuple #[frA (frO ks (j + 1)), frK (frO ks (j + 1))]) ∧ Below w'.heap.size w' w''
  lt : ∀ j (hj : j < ks.length), ks[j].1 < 65536
  mu : ∀ j (hj : j < ks.length), kmu (frA (frO ks (j + 1))) (frK (frO ks (j + 1))) < kmu (frA (frO ks j)) (frK (frO ks j))
theorem FromK.of {w : World} {b s k : Nat} {ks : List (Nat × Nat × List En)} (c3 : w.cell? ⟨b, 3, none⟩ = some (.pointer (some ⟨s, 0, none⟩))) (hs : SlR w s k (ks.map kb)) : FromK w b ks := by
  have hasc := hs.rw'.asc
  have hlt : ∀ j (hj : j < ks.length), ks[j].1 < 65536 := fun j hj => by
    have h1 := hs.rw'.lt (kb ks[j]) (List.mem_map_of_mem (List.getElem_mem hj))
    have h2 := pow_le k hs.k16
    have : (kb ks[j]).1 = ks[j].1 := rfl
    omega
  refine ⟨fun w' hb => ?_, fun j hj w' hb => ?_, hlt, fun j hj => ?_⟩
  · have := nfrom_any w' b s k (ks.map kb) 0 (Below.keeps hb _ _ c3) (hs.below hb)
    rw [nfromV_eq, fromI_zero] at this
    exact this
  · have := nfrom_any w' b s k (ks.map kb) (((ks[j].1 : Nat) : Int) + 1) (Below.keeps hb _ _ c3) (hs.below hb)
    have h2 := fromI_next hasc j (by rw [List.length_map]; exact hj)
    rw [List.getElem_map] at h2
    rw [nfromV_eq, show ((ks[j].1 : Nat) : Int) = (((kb ks[j]).1 : Nat) : Int) from rfl, h2] at this
    exact this
  · rw [frO_some hj]
    by_cases h : j + 1 < ks.length
    · rw [frO_some h]
      have h1 : ((ks.map kb)[j]'(by simpa using hj)).1 < ((ks.map kb)[j + 1]'(by simpa using h)).1 := List.pairwise_iff_getElem.1 hasc j (j + 1) (by simpa using hj) (by simpa using h) (by omega)
      rw [List.getElem_map, List.getElem_map] at h1
      have h1 : ks[j].1 < ks[j + 1].1 := h1
      have h2 := hlt _ h
      show kmu (.int .i64 (ks[j + 1].1 : Nat)) (.pointer (some ⟨ks[j + 1].2.1, 0, none⟩)) < kmu (.int .i64 (ks[j].1 : Nat)) (.pointer (some ⟨ks[j].2.1, 0, none⟩))
      rw [kmu_some, kmu_some]
      omega
    · rw [frO_none h]
      have h2 := hlt _ hj
      show 0 < kmu (.int .i64 (ks[j].1 : Nat)) (.pointer (some ⟨ks[j].2.1, 0, none⟩))
      rw [kmu_some]
      omega
theorem FromK.bel {w w1 : World} {b : Nat} {ks : List (Nat × Nat × List En)} (h : FromK w b ks) (hb : Below w.heap.size w w1) : FromK w1 b ks :=
  ⟨fun w' hb2 => h.zero w' (hb.trans (hb2.mono hb.size)), fun j hj w' hb2 => h.next j hj w' (hb.trans (hb2.mono hb.size)), h.lt, h.mu⟩
end Go.Proofs.Ytjokcagggmjgmaa
/-! BldP -/
namespace Go.Proofs.Ytjokcagggmjgmaa
open Go.RowKit
set_option linter.unusedVariables false

end Go.Proofs.Ytjokcagggmjgmaa
/-! BldQ -/
namespace Go.Proofs.Ytjokcagggmjgmaa
open Go.RowKit
set_option linter.unusedVariables false

theorem cat_take_succ (L : List (Nat × List En)) (j : Nat) (h : j < L.length) : cat (L.take (j + 1)) = cat (L.take j) ++ L[j].2 := by
  unfold cat
  rw [← List.take_append_getElem h, List.flatMap_append]
  simp
theorem cat_split (L : List (Nat × List En)) (j : Nat) (h : j < L.length) : cat L = cat (L.take j) ++ (L[j].2 ++ cat (L.drop (j + 1))) := by
  conv => lhs; rw [← List.take_append_drop j L, ← List.getElem_cons_drop h]
  unfold cat
  rw [List.flatMap_append, List.flatMap_cons]
theorem cat_room (L : List (Nat × List En)) (j : Nat) (h : j < L.length) : (cat (L.take j)).length + L[j].2.length ≤ (cat L).length := by
  have h1 := congrArg List.length (cat_split L j h)
  simp only [List.length_append] at h1
  omega
theorem Kd.take {k n : Nat} {pre : List Nat} {L : List (Nat × List En)} (h : Kd k n pre L) {j : Nat} (h2 : 2 ≤ j) (hj : j ≤ L.length) : Kd k n pre (L.take j) := by
  have hm : ∀ x ∈ L.take j, x ∈ L := fun x hx => List.mem_of_mem_take hx
  exact ⟨by rw [List.length_take]; omega, h.n64, List.Pairwise.sublist (List.take_sublist j L) h.asc, fun x hx => h.ne x (hm x hx), fun x hx => h.et x (hm x hx), fun x hx => h.pre x (hm x hx), fun x hx => h.adr x (hm x hx)⟩
theorem Kd.uniq {k n n' : Nat} {pre pre' : List Nat} {L M : List (Nat × List En)} (h : Kd k n pre L) (g : Kd k n' pre' M) (e : cat L = cat M) : L = M := by
  have h1 := h.kids
  have h2 := h.places
  rw [e] at h1 h2
  rw [g.kids] at h1
  rw [g.places] at h2
  have key : ∀ (a b : List (Nat × List En)), a.map (·.1) = b.map (·.1) → a.map (·.2) = b.map (·.2) → a = b := by
    intro a
    induction a with
    | nil => intro b h _; cases b with
      | nil => rfl
      | cons y b => simp at h
    | cons x a ih =>
      intro b h g
      cases b with
      | nil => simp at h
      | cons y b =>
        simp only [List.map_cons, List.cons.injEq] at h g
        rw [ih b h.2 g.2, Prod.ext h.1 g.1]
  exact key L M h2.symm h1.symm
end Go.Proofs.Ytjokcagggmjgmaa
/-! WlkA -/
namespace Go.Proofs.Ytjokcagggmjgmaa
open Go.RowKit
set_option linter.unusedVariables false
set_option linter.unusedSimpArgs false
set_option maxRecDepth 100000

/-- the function f, with cap captured, is told entries; Inv says what it has been told -/
structure Tell (W : World) (f : FuncId) (cap : Array Value) (N : Nat) (Inv : List En → World → Prop) : Prop where
  ent : ∀ args w, (callFunc f args).run Try.prog w = .ok (.enter f args) w
  tell : ∀ d e u w', d.length < N → Inv d w' → Below W.heap.size W w' → PtNew w' u e.p → Calls Try.prog f (#[.agg #[u, .int .u64 (e.v : Nat)]] ++ cap) w' fun r w'' => r = .returned (.bool true) ∧ Inv (d ++ [e]) w'' ∧ Below W.heap.size W w''
  step : ∀ d w' w'', Inv d w' → Below w'.heap.size w' w'' → Inv d w''
def EachP (W : World) (Inv : List En → World → Prop) (d : List En) (e : Ending) (w' : World) : Prop := e = .returned (.bool true) ∧ Inv d w' ∧ Below W.heap.size W w'
theorem each_nil (w : World) (f : FuncId) (cap : Array Value) : Calls Try.prog 129 #[.pointer none, .func (.func f) #[] cap] w fun e w' => e = .returned (.bool true) ∧ w' = w := by
  go_enter Try.func129, Try.ntmps129
  go_wp2_with fail
  go_ret
  exact ⟨rfl, rfl⟩
set_option maxHeartbeats 2000000 in
theorem each_leaf (W w : World) (f : FuncId) (cap : Array Value) (N k b : Nat) (p : List Nat) (v : Nat) (Inv : List En → World → Prop) (d : List En) (T : Tell W f cap N Inv)
    (h : Hd W b (-1) p v (.pointer none) (Sm.of v)) (hp : p.length = k) (k1 : 1 ≤ k) (k16 : k ≤ 16) (hi : Inv d w) (hb : Below W.heap.size W w) (hN : d.length < N) :
    Calls Try.prog 129 #[.pointer (some ⟨b, 0, none⟩), .func (.func f) #[] cap] w fun e w' => EachP W Inv (d ++ [⟨p, v⟩]) e w' := by
  have HE := Lib.hid (ent_leaf w b k v (-1) p (Sm.of v) (h.keep hb) hp k1 k16)
  have HI := Lib.hid (And.intro hi (And.intro hb hN))
  have HT := Lib.hid T
  have hent := T.ent
  have hbl := (h.keep hb).c0
  have hbl := World.block_lt_of_cell? w _ hbl
  clear T h hp k1 k16 hi hb hN
  go_enter Try.func129, Try.ntmps129
  go_wp2_with fail
  refine HE.out.mono ?_
  rintro e w1 ⟨u, rfl, hpt, hb1⟩
  obtain ⟨A9, c9, rfl, _⟩ := RdU.point hpt.rd
  have HP := Lib.hid (And.intro hpt hb1)
  clear hpt hb1 hbl
  go_wp2_with fail
  refine (HT.out.tell _ ⟨p, v⟩ _ _ HI.out.2.2 (HT.out.step _ _ _ HI.out.1 (below_trans HP.out.2 (by repeat (first | exact Below.refl _ _ | (refine Below.drew ?_) | (refine below_drewN' ?_ _) | (refine below_alloc' ?_ _) | (refine Below.setCell ?_ (by first | exact Nat.le_refl _ | (simp; done) | (simp; omega)) _))))) (HI.out.2.1.trans ((below_trans HP.out.2 (by repeat (first | exact Below.refl _ _ | (refine Below.drew ?_) | (refine below_drewN' ?_ _) | (refine below_alloc' ?_ _) | (refine Below.setCell ?_ (by first | exact Nat.le_refl _ | (simp; done) | (simp; omega)) _)))).mono HI.out.2.1.size)) (HP.out.1.below (by repeat (first | exact Below.refl _ _ | (refine Below.drew ?_) | (refine below_drewN' ?_ _) | (refine below_alloc' ?_ _) | (refine Below.setCell ?_ (by first | exact Nat.le_refl _ | (simp; done) | (simp; omega)) _))))).mono ?_
  rintro e w2 ⟨rfl, hi2, hb2⟩
  have HF := Lib.hid (And.intro hi2 hb2)
  clear hi2 hb2
  go_wp2_with fail
  go_ret
  exact ⟨rfl, HF.out⟩
set_option maxHeartbeats 4000000 in
theorem each_node (W w : World) (f : FuncId) (cap : Array Value) (N b s k : Nat) (ks : List (Nat × Nat × List En)) (Inv : List En → World → Prop) (d : List En) (T : Tell W f cap N Inv)
    (c3 : W.cell? ⟨b, 3, none⟩ = some (.pointer (some ⟨s, 0, none⟩))) (hs : SlR W s k (ks.map kb)) (hi : Inv d w) (hb : Below W.heap.size W w) (hN : d.length + (cat (ks.map kl)).length ≤ N)
    (ih : ∀ x ∈ ks, ∀ (w' : World) (d : List En), Inv d w' → Below W.heap.size W w' → d.length + x.2.2.length ≤ N → Calls Try.prog 129 #[.pointer (some ⟨x.2.1, 0, none⟩), .func (.func f) #[] cap] w' fun e w'' => EachP W Inv (d ++ x.2.2) e w'') :
    Calls Try.prog 129 #[.pointer (some ⟨b, 0, none⟩), .func (.func f) #[] cap] w fun e w' => EachP W Inv (d ++ cat (ks.map kl)) e w' := by
  have HE := Lib.hid (ent_node w b s (Below.keeps hb _ _ c3))
  have HFK := Lib.hid (FromK.of c3 hs)
  have HI := Lib.hid (And.intro hi (And.intro hb hN))
  have HT := Lib.hid T
  have HIH := Lib.hid ih
  have hbl := World.block_lt_of_cell? w _ (Below.keeps hb _ _ c3)
  clear T c3 hs hi hb hN ih
  go_enter Try.func129, Try.ntmps129
  go_wp2_with fail
  refine HE.out.mono ?_
  rintro e w1 ⟨rfl, hb1⟩
  have HB1 := Lib.hid (HI.out.2.1.trans (hb1.mono HI.out.2.1.size))
  have HI1 := Lib.hid (HT.out.step _ _ _ HI.out.1 hb1)
  clear hb1 hbl
  go_wp2_with fail
  refine (HFK.out.zero _ (below_trans HB1.out (by repeat (first | exact Below.refl _ _ | (refine Below.drew ?_) | (refine below_drewN' ?_ _) | (refine below_alloc' ?_ _) | (refine Below.setCell ?_ (by first | exact Nat.le_refl _ | (simp; done) | (simp; omega)) _))))).mono ?_
  rintro e w2 ⟨rfl, hb2⟩
  have HB2 := Lib.hid ((below_trans HB1.out (by repeat (first | exact Below.refl _ _ | (refine Below.drew ?_) | (refine below_drewN' ?_ _) | (refine below_alloc' ?_ _) | (refine Below.setCell ?_ (by first | exact Nat.le_refl _ | (simp; done) | (simp; omega)) _)))).trans (hb2.mono (below_trans HB1.out (by repeat (first | exact Below.refl _ _ | (refine Below.drew ?_) | (refine below_drewN' ?_ _) | (refine below_alloc' ?_ _) | (refine Below.setCell ?_ (by first | exact Nat.le_refl _ | (simp; done) | (simp; omega)) _)))).size))
  have HI2 := Lib.hid (HT.out.step _ _ _ (HT.out.step _ _ _ HI1.out ((by repeat (first | exact Below.refl _ _ | (refine Below.drew ?_) | (refine below_drewN' ?_ _) | (refine below_alloc' ?_ _) | (refine Below.setCell ?_ (by first | exact Nat.le_refl _ | (simp; done) | (simp; omega)) _))) : Below w1.heap.size w1 _)) hb2)
  clear hb2
  go_wp2_with fail
  go_loopw [7, 8] (fun av kv wr => ∃ j : Nat, j ≤ ks.length ∧ av = frA (frO ks j) ∧ kv = frK (frO ks j) ∧ Inv (d ++ cat ((ks.map kl).take j)) wr ∧ Below W.heap.size W wr) (fun av kv _ => kmu av kv)
  case atStart => exact ⟨0, Nat.zero_le _, rfl, rfl, by simpa [cat] using HI2.out, HB2.out⟩
  case round =>
    obtain ⟨j, hj, rfl, rfl, hi, hb⟩ := hrel
    have HR := Lib.hid (And.intro hi hb)
    by_cases hlt : j < ks.length
    · have hcat := cat_take_succ (ks.map kl) j (by rw [List.length_map]; exact hlt)
      have hroom := cat_room (ks.map kl) j (by rw [List.length_map]; exact hlt)
      rw [List.getElem_map] at hcat hroom
      have hk2 : (kl ks[j]).2 = ks[j].2.2 := rfl
      rw [hk2] at hcat hroom
      have HK := Lib.hid (HIH.out ks[j] (List.getElem_mem hlt) wr _ hi hb (by have := HI.out.2.2; rw [List.length_append]; omega))
      have HNX := Lib.hid (HFK.out.next j hlt)
      have HMU := Lib.hid (HFK.out.mu j hlt)
      have HC := Lib.hid hcat
      have hla := HFK.out.lt j hlt
      rw [frO_some hlt] at HMU ⊢
      obtain ⟨A, hA⟩ : ∃ A, ks[j].1 = A := ⟨_, rfl⟩
      obtain ⟨B, hB⟩ : ∃ B, ks[j].2.1 = B := ⟨_, rfl⟩
      rw [hA] at HNX HMU hla ⊢
      rw [hB] at HK HMU ⊢
      have HW := Lib.hid (show wrap64 ((A : Int) + 1) = (A : Int) + 1 by unfold wrap64; omega)
      rw [frA_some, frK_some]
      clear hi hb hcat hroom hk2 hA hB hla
      go_wp2_with fail
      refine HK.out.mono ?_
      rintro e w3 ⟨rfl, hi3, hb3⟩
      have HR3 := Lib.hid (And.intro hi3 hb3)
      clear hi3 hb3
      go_wp2_with fail
      rw [HW.out]
      refine (HNX.out _ (below_trans HR3.out.2 (by repeat (first | exact Below.refl _ _ | (refine Below.drew ?_) | (refine below_drewN' ?_ _) | (refine below_alloc' ?_ _) | (refine Below.setCell ?_ (by first | exact Nat.le_refl _ | (simp; done) | (simp; omega)) _))))).mono ?_
      rintro e w4 ⟨rfl, hb4⟩
      have HR4 := Lib.hid (And.intro (HT.out.step _ _ _ HR3.out.1 hb4) (HR3.out.2.trans (hb4.mono HR3.out.2.size)))
      clear hb4
      go_wp2_with fail
      go_roundw
      case rel => exact ⟨j + 1, by omega, rfl, rfl, by rw [HC.out, ← List.append_assoc]; exact HR4.out.1, HR4.out.2⟩
      case measure => exact HMU.out
    · rw [frO_none hlt]
      rw [frA_none, frK_none]
      have e : (ks.map kl).take j = ks.map kl := List.take_of_length_le (by rw [List.length_map]; omega)
      rw [e] at HR
      clear hi hb e
      go_wp2_with fail
      go_ret
      exact ⟨rfl, HR.out⟩
theorem each_nd (W : World) (f : FuncId) (cap : Array Value) (N k : Nat) (Inv : List En → World → Prop) (T : Tell W f cap N Inv) (k1 : 1 ≤ k) (k16 : k ≤ 16) {b : Nat} {l : List En} (h : Nd W k b l) :
    ∀ (w : World) (d : List En), Inv d w → Below W.heap.size W w → d.length + l.length ≤ N → Calls Try.prog 129 #[.pointer (some ⟨b, 0, none⟩), .func (.func f) #[] cap] w fun e w' => EachP W Inv (d ++ l) e w' := by
  induction h with
  | leaf b p v h hp ho hv => exact fun w d hi hb hN => each_leaf W w f cap N k b p v Inv d T h hp k1 k16 hi hb (by simp at hN; omega)
  | node b s n pre ks h hs hkd hn ih => exact fun w d hi hb hN => each_node W w f cap N b s k ks Inv d T h.c3 hs hi hb hN ih
end Go.Proofs.Ytjokcagggmjgmaa
/-! EntD -/
namespace Go.Proofs.Ytjokcagggmjgmaa
open Go.RowKit
set_option linter.unusedVariables false

/-- the cells cs hold the entries l, Pt saying what a point's value reads as -/
def CellsD (Pt : Value → List Nat → Prop) : List En → List Value → Prop
  | [], cs => cs = []
  | e :: l, cs => ∃ u ds, cs = u :: .int .u64 (e.v : Nat) :: ds ∧ Pt u e.p ∧ CellsD Pt l ds
theorem CellsD.length {Pt : Value → List Nat → Prop} {cs : List Value} {l : List En} (h : CellsD Pt l cs) : cs.length = l.length * 2 := by
  induction l generalizing cs with
  | nil => obtain rfl : cs = [] := h; rfl
  | cons e l ih => obtain ⟨u, ds, rfl, _, h⟩ := h; have := ih h; simp; omega
theorem CellsD.append {Pt : Value → List Nat → Prop} {cs ds : List Value} {l m : List En} (h : CellsD Pt l cs) (k : CellsD Pt m ds) : CellsD Pt (l ++ m) (cs ++ ds) := by
  induction l generalizing cs with
  | nil => obtain rfl : cs = [] := h; exact k
  | cons e l ih => obtain ⟨u, ds, rfl, hu, h⟩ := h; exact ⟨u, _, rfl, hu, ih h⟩
theorem CellsD.mono {Pt Qt : Value → List Nat → Prop} {cs : List Value} {l : List En} (h : CellsD Pt l cs) (hk : ∀ u p, Pt u p → Qt u p) : CellsD Qt l cs := by
  induction l generalizing cs with
  | nil => exact h
  | cons e l ih => obtain ⟨u, ds, rfl, hu, h⟩ := h; exact ⟨u, ds, rfl, hk _ _ hu, ih h⟩
theorem CellsD.oneCell {Pt : Value → List Nat → Prop} {w : World} (hp : ∀ u p, Pt u p → RdU w u (pti p)) {cs : List Value} {l : List En} (h : CellsD Pt l cs) : ∀ u ∈ cs, u.oneCell' = true := by
  induction l generalizing cs with
  | nil => obtain rfl : cs = [] := h; intro u hu; simp at hu
  | cons e l ih =>
    obtain ⟨u, ds, rfl, hu, h⟩ := h
    intro y hy
    simp only [List.mem_cons] at hy
    rcases hy with rfl | rfl | hy
    · exact RdU.one' (hp _ _ hu)
    · rfl
    · exact ih h y hy
theorem CellsD.get {Pt : Value → List Nat → Prop} {cs : List Value} {l : List En} (h : CellsD Pt l cs) :
    ∀ j (h : j < l.length), ∃ u, cs[j * 2]? = some u ∧ Pt u l[j].p ∧ cs[j * 2 + 1]? = some (.int .u64 (l[j].v : Nat)) := by
  induction l generalizing cs with
  | nil => intro j hj; simp at hj
  | cons e l ih =>
    obtain ⟨u, ds, rfl, hu, h⟩ := h
    intro j hj
    cases j with
    | zero => exact ⟨u, by simp, hu, by simp⟩
    | succ j =>
      obtain ⟨u', h1, h2, h3⟩ := ih h j (by simpa using hj)
      refine ⟨u', ?_, by simpa using h2, ?_⟩
      · rw [show (j + 1) * 2 = j * 2 + 1 + 1 by omega]; simpa using h1
      · rw [show (j + 1) * 2 + 1 = j * 2 + 1 + 1 + 1 by omega]; simpa using h3
/-- v is a row of the call's own (the call began in W) that holds the entries l -/
def OwnD (Pt : Value → List Nat → Prop) (W w : World) (v : Value) (l : List En) : Prop := ∃ cs, w.ownsRow W.heap.size 76 2 v l.length cs ∧ CellsD Pt l cs
theorem OwnD.nil (Pt : Value → List Nat → Prop) (W w : World) : OwnD Pt W w (.slice none 0 0) [] := ⟨[], World.ownsRow_nil _ _ _ _, rfl⟩
theorem OwnD.mono {Pt Qt : Value → List Nat → Prop} {W w : World} {v : Value} {l : List En} (h : OwnD Pt W w v l) (hk : ∀ u p, Pt u p → Qt u p) : OwnD Qt W w v l := let ⟨cs, h1, h2⟩ := h; ⟨cs, h1, h2.mono hk⟩
theorem OwnD.alloc {Pt : Value → List Nat → Prop} {W w : World} {v : Value} {l : List En} (h : OwnD Pt W w v l) (o : Obj) : OwnD Pt W (w.alloc o) v l := let ⟨cs, h1, h2⟩ := h; ⟨cs, h1.alloc o, h2⟩
theorem OwnD.below {Pt : Value → List Nat → Prop} {W w w' : World} {v : Value} {l : List En} (h : OwnD Pt W w v l) (hb : Below w.heap.size w w') : OwnD Pt W w' v l := by
  obtain ⟨cs, ⟨h1, h2⟩, h3⟩ := h
  refine ⟨cs, ⟨h1, ?_⟩, h3⟩
  rcases h2 with h2 | ⟨g, cap, cur, q1, q2, q3, q4⟩
  · exact .inl h2
  · exact .inr ⟨g, cap, cur, q1, q2, (hb.block g (Array.getElem?_eq_some_iff.1 q3).1).trans q3, q4⟩
theorem OwnD.shape {Pt : Value → List Nat → Prop} {W w : World} {v : Value} {l : List En} (h : OwnD Pt W w v l) : ∃ A c, v = .slice A l.length c := by
  obtain ⟨cs, ⟨h1, h2⟩, h3⟩ := h
  rcases h2 with ⟨rfl, h0⟩ | ⟨g, cap, cur, rfl, _⟩
  · exact ⟨_, _, by rw [h0]⟩
  · exact ⟨_, _, rfl⟩
/-- a row that is not empty: its block -/
theorem OwnD.cells {Pt : Value → List Nat → Prop} {W w : World} {v : Value} {l : List En} (h : OwnD Pt W w v l) (hne : l ≠ []) :
    ∃ g cap cur, v = .slice (some ⟨g, 0, none⟩) l.length cap ∧ W.heap.size ≤ g ∧ w.heap[g]? = some (.cells cur 76 (0, 0)) ∧ l.length ≤ cap ∧ cap ≤ maxLen ∧ cur.size = cap * 2 ∧
      ∀ j (h : j < l.length), ∃ u, cur[j * 2]? = some u ∧ Pt u l[j].p ∧ cur[j * 2 + 1]? = some (.int .u64 (l[j].v : Nat)) := by
  have hpos := List.length_pos_iff.2 hne
  obtain ⟨cs, ⟨h1, h2⟩, h3⟩ := h
  rcases h2 with ⟨rfl, h0⟩ | ⟨g, cap, cur, rfl, q2, q3, q4, q5, q6, q7⟩
  · exact absurd hpos (by omega)
  · refine ⟨g, cap, cur, rfl, q2, q3, q4, q5, q6, fun j hj => ?_⟩
    obtain ⟨u, r1, r2, r3⟩ := h3.get j hj
    rw [← q7, List.getElem?_take_of_lt (by omega)] at r1 r3
    exact ⟨u, by simpa using r1, r2, by simpa using r3⟩
theorem OwnD.rd {Pt : Value → List Nat → Prop} {W w : World} {v : Value} {l : List En} (h : OwnD Pt W w v l) (hp : ∀ u p, Pt u p → RdU w u (pti p)) : RdE w v l := by
  by_cases hne : l = []
  · subst hne
    obtain ⟨cs, ⟨h1, h2⟩, h3⟩ := h
    rcases h2 with ⟨rfl, h0⟩ | ⟨g, cap, cur, rfl, q2, q3, q4, q5, q6, q7⟩
    · exact RdE.nil _ _ _ (Nat.zero_le _) fun h => absurd h (by omega)
    · exact RdE.nil _ _ _ q5 fun _ => ⟨_, _, rfl⟩
  · obtain ⟨g, cap, cur, rfl, q2, q3, q4, q5, q6, q7⟩ := h.cells hne
    refine ⟨_, _, rfl, ⟨q4, q5, fun _ => ⟨_, _, rfl⟩⟩, fun _ => ⟨g, 0, rfl, fun j hj => ?_⟩⟩
    obtain ⟨u, r1, r2, r3⟩ := q7 j hj
    exact ⟨u, by simp [World.cell?, q3, r1], hp _ _ r2, by simp [World.cell?, q3, r3]⟩
/-- the own block is a row of entries -/
theorem OwnD.block {Pt : Value → List Nat → Prop} {W w : World} {v : Value} {l : List En} (h : OwnD Pt W w v l) : ∀ k, v.ownBlock = some k → W.heap.size ≤ k ∧ ∃ cur, w.heap[k]? = some (.cells cur 76 (0, 0)) := by
  obtain ⟨cs, ⟨h1, h2⟩, h3⟩ := h
  intro k hk
  rcases h2 with ⟨rfl, _⟩ | ⟨g, cap, cur, rfl, q2, q3, q4⟩
  · cases hk
  · injection hk with hk; subst hk; exact ⟨q2, cur, q3⟩
/-- one entry to be appended -/
def SrcD (Pt : Value → List Nat → Prop) (w : World) (x : Value) (e : En) : Prop :=
  ∃ b cc u, x = .slice (some ⟨b, 0, none⟩) 1 cc ∧ w.cell? ⟨b, 0, none⟩ = some u ∧ Pt u e.p ∧ w.cell? ⟨b, 1, none⟩ = some (.int .u64 (e.v : Nat))
theorem run_append_D {Pt : Value → List Nat → Prop} (W w : World) (hp : ∀ u p, Pt u p → RdU w u (pti p)) (v x : Value) (l : List En) (e : En) (hown : OwnD Pt W w v l) (hx : SrcD Pt w x e) (hb : W.heap.size ≤ w.heap.size) (hlen : l.length ≤ 100000) (ty : TypeId) :
    ∃ v' w', (Builtin.append_ #[26, 26] ty #[v, x]).run Try.prog w = .ok v' w' ∧ OwnD Pt W w' v' (l ++ [e]) ∧ w.grownBy w' v.ownBlock := by
  obtain ⟨cs, ho, hc⟩ := hown
  obtain ⟨b, cc, u, rfl, k0, ku, k1⟩ := hx
  have hn : CellsD Pt [e] [u, .int .u64 (e.v : Nat)] := ⟨u, [], rfl, ku, rfl⟩
  obtain ⟨v', w', a1, a2, a3⟩ := run_append_src (P := Try.prog) w W.heap.size 26 ty 76 _ 2 32 Try.underlying26 entryInfo rfl (by omega) v l.length cs ho (.slice (some ⟨b, 0, none⟩) 1 cc) 1 [u, .int .u64 (e.v : Nat)]
    ⟨rfl, hn.oneCell hp, _, cc, rfl, (fun h => by cases h), fun ad had j x hj => by
      injection had with had; subst had
      match j with
      | 0 => simp at hj; subst hj; simpa [Addr.add] using k0
      | 1 => simp at hj; subst hj; simpa [Addr.add] using k1
      | j + 2 => simp at hj⟩ (by simp only [maxLen]; omega) (by omega) hb
  exact ⟨v', w', a1, ⟨_, by rw [List.length_append]; exact a2, hc.append hn⟩, a3⟩
theorem wpList_append_D {Pt : Value → List Nat → Prop} {w : World} {ops : Array Oper} {rest : List Oper} {o : Oper} {a : Act} {Q : Exit → Act → World → Prop} (hgd : o.guard = none) (s x : Operand)
    (ho : o.op = .call { callee := .builtin .append, args := #[s, x], argTypes := #[26, 26] }) (W : World) (l : List En) (e : En)
    (hp : ∀ u p, Pt u p → RdU w u (pti p)) (hown : OwnD Pt W w (a.eval s) l) (hx : SrcD Pt w (a.eval x) e) (hb : W.heap.size ≤ w.heap.size) (hlen : l.length ≤ 100000)
    (h : ∀ v' w', OwnD Pt W w' v' (l ++ [e]) → w.grownBy w' (a.eval s).ownBlock → wpList Try.prog ops Q rest (a.put o.dst v') w') : wpList Try.prog ops Q (o :: rest) a w := by
  refine wpList_plain hgd fun K hK => ?_
  obtain ⟨v', w', hrun, r1, r2⟩ := run_append_D W w hp _ _ l e hown hx hb hlen o.type
  unfold Oper.wp
  simp [execOp, ho, resolve, invoke, builtin, hrun, Result.andThen]
  exact hK _ _ (h v' w' r1 r2)
theorem OwnD.grown {Pt : Value → List Nat → Prop} {W w w' : World} {v : Value} {l : List En} (h : OwnD Pt W w v l) (hb : Below W.heap.size W w) (hg : w.grownBy w' v.ownBlock) : Below W.heap.size W w' :=
  hb.grown hg hb.size fun k hk => (h.block k hk).1
/-- a point in a row of numbers stays when a row of entries grows -/
theorem PtNew.grownD {Pt : Value → List Nat → Prop} {W w w' : World} {v : Value} {l : List En} (ho : OwnD Pt W w v l) (hg : w.grownBy w' v.ownBlock) : ∀ u p, PtNew w u p → PtNew w' u p := fun u p h =>
  h.keepBlock fun b cur fr hb => hg.block _ (lt_of_block hb) fun e => by
    obtain ⟨_, c2, h2⟩ := ho.block _ e.symm
    rw [hb] at h2
    injection h2 with h2
    injection h2 with _ h2 _
    revert h2; decide
end Go.Proofs.Ytjokcagggmjgmaa
/-! ThenF -/
namespace Go.Proofs.Ytjokcagggmjgmaa
open Go.RowKit
set_option linter.unusedVariables false
set_option linter.unusedSimpArgs false

/-- a pointer to a change, or nil -/
def PtrC (w : World) (v : Value) : Option Ch → Prop
  | none => v = .pointer none
  | some c => ∃ b o, v = .pointer (some ⟨b, o, none⟩) ∧ ChAt w b o c
/-- so much has been gathered in the captured variable -/
def InvT (W : World) (B : Nat) (o : List Ch) (w : World) : Prop :=
  ∃ vo, w.heap[B]? = some (.cells #[vo] 49 (0, 0)) ∧ OwnC (PtNew w) W w vo o ∧ Below W.heap.size W w
theorem OwnC.shape {Pt : Value → List Nat → Prop} {W w : World} {v : Value} {l : List Ch} (h : OwnC Pt W w v l) : ∃ A n c, v = .slice A n c := by
  obtain ⟨cs, ⟨h1, h2⟩, h3⟩ := h
  rcases h2 with ⟨rfl, _⟩ | ⟨g, cap, cur, rfl, _⟩
  · exact ⟨_, _, _, rfl⟩
  · exact ⟨_, _, _, rfl⟩
theorem InvT.push {W w3 w4 : World} {B : Nat} {vo v' : Value} {o o' : List Ch} (hB : W.heap.size ≤ B) (hblk : w3.heap[B]? = some (.cells #[vo] 49 (0, 0))) (hown : OwnC (PtNew w3) W w3 vo o) (hb : Below W.heap.size W w3)
    (hown' : OwnC (PtNew w3) W w4 v' o') (hg : w3.grownBy w4 vo.ownBlock) : w4.heap[B]? = some (.cells #[vo] 49 (0, 0)) ∧ InvT W B o' (w4.setCell ⟨B, 0, none⟩ v') := by
  have hneB : some B ≠ vo.ownBlock := by
    intro e
    obtain ⟨_, cur, hc⟩ := hown.block B e.symm
    rw [hblk] at hc
    injection hc with hc
    injection hc with _ hc _
    exact absurd hc (by decide)
  have h4 : w4.heap[B]? = some (.cells #[vo] 49 (0, 0)) := (hg.block B (lt_of_block hblk) hneB).trans hblk
  have hneB' : v'.ownBlock ≠ some B := by
    intro e
    obtain ⟨_, cur, hc⟩ := hown'.block B e
    rw [h4] at hc
    injection hc with hc
    injection hc with _ hc _
    exact absurd hc (by decide)
  refine ⟨h4, v', one_setCell h4, ?_, ?_⟩
  · obtain ⟨cs, ho, hc⟩ := hown'
    refine ⟨cs, ownsRow_setCell_other ho hneB' _, hc.mono fun u p hp => ?_⟩
    have hp4 : PtNew w4 u p := hp.keepBlock fun b cur fr hbk => by
      refine hg.block b (lt_of_block hbk) ?_
      intro e
      obtain ⟨_, cur', hc'⟩ := hown.block b e.symm
      rw [hbk] at hc'
      injection hc' with hc'
      injection hc' with _ hc' _
      exact absurd hc' (by decide)
    exact hp4.keepBlock fun b cur fr hbk => by
      refine Below.heap_setCell _ _ _ _ ?_
      intro e
      have e' : b = B := e
      rw [e', h4] at hbk
      injection hbk with hbk
      injection hbk with _ hbk _
      exact absurd hbk (by decide)
  · exact (hb.grown hg hb.size fun k hk => (hown.block k hk).1).setCell hB _

set_option maxRecDepth 8000 in
set_option maxHeartbeats 2000000 in
theorem tellX (W w : World) (B : Nat) (o : List Ch) (x : Ch) (px : Value) (hW : W.heap.size ≤ B) (hi : InvT W B o w) (hx : PtrC w px (some x)) (h1 : 1 ≤ x.p.length) (h40 : x.p.length ≤ 40) (hol : o.length ≤ 10000) :
    Calls Try.prog 51 #[px, .pointer none, .pointer (some ⟨B, 0, none⟩)] w fun e w' => e = .returned (.bool true) ∧ InvT W B (o ++ [x]) w' := by
  obtain ⟨bx, ox, rfl, vx, k0, hv, k1, k2, k3, k4⟩ := hx
  have HV := Lib.hid hv
  have HO := Lib.hid (show ∀ w', RdU w' vx (pti x.p) → Calls Try.prog 52 #[.agg #[vx, .bool x.had, .bool x.has, .int .u64 (x.old : Nat), .int .u64 (x.new : Nat)]] w' fun e w'' => OwnP w' x e w'' from fun w' h => own_any x vx w' h h1 h40)
  obtain ⟨Ax, cx, rfl, hx0⟩ := RdU.point hv
  obtain ⟨vo, hblk, hown, hbW⟩ := hi
  have kb := cell_of_one hblk
  have HI := Lib.hid (And.intro hblk (And.intro hown (And.intro hbW (And.intro hW hol))))
  have hlB : B < w.heap.size := lt_of_block hblk
  have hlx : bx < w.heap.size := World.block_lt_of_cell? w _ k0
  clear hblk hown hbW hv hx0 h1 h40 hW hol
  go_enter Try.func51, Try.ntmps51
  go_wp2_with fail
  refine wp_region_vals 6 [fun v _ => v = vo,
    fun v _ => v = .pointer (some ⟨bx, ox, none⟩),
    fun v _ => v = .pointer (some ⟨bx, ox, none⟩),
    fun v _ => v = .agg #[.slice Ax x.p.length cx, .bool x.had, .bool x.has, .int .u64 (x.old : Nat), .int .u64 (x.new : Nat)],
    fun v9 w9 => ∃ A9 n9 c9, v9 = .agg #[.slice A9 n9 c9, .bool x.had, .bool x.has, .int .u64 (x.old : Nat), .int .u64 (x.new : Nat)] ∧ PtNew w9 (.slice A9 n9 c9) x.p,
    fun v9 w9 => ∃ g A9 n9 c9, v9 = .slice (some ⟨g, 0, none⟩) 1 1 ∧ PtNew w9 (.slice A9 n9 c9) x.p ∧ w9.cell? ⟨g, 0, none⟩ = some (.slice A9 n9 c9) ∧ w9.cell? ⟨g, 1, none⟩ = some (.bool x.had) ∧ w9.cell? ⟨g, 2, none⟩ = some (.bool x.has) ∧ w9.cell? ⟨g, 3, none⟩ = some (.int .u64 (x.old : Nat)) ∧ w9.cell? ⟨g, 4, none⟩ = some (.int .u64 (x.new : Nat))]
    (by kernel_rfl) (by kernel_rfl) (by kernel_rfl) (by kernel_rfl) ?_ ?_ ?_
  · intro V hV v w1 w2 h hb
    simp only [List.mem_cons, List.not_mem_nil, or_false] at hV
    rcases hV with rfl | rfl | rfl | rfl | rfl | rfl
    all_goals first | exact h | (first | (obtain ⟨A9, n9, c9, h1, h2⟩ := h; exact ⟨A9, n9, c9, h1, h2.below hb⟩) | (obtain ⟨g, A9, n9, c9, h1, h2, h3, h4, h5, h6, h7⟩ := h; exact ⟨g, A9, n9, c9, h1, h2.below hb, Below.keeps hb _ _ h3, Below.keeps hb _ _ h4, Below.keeps hb _ _ h5, Below.keeps hb _ _ h6, Below.keeps hb _ _ h7⟩))
  · intro i o hi ho
    match i, hi with
    | 0, _ =>
    obtain rfl := Option.some.inj ho
    intro a1 w1 K hk hK
    have e2 : a1.tmps.getD 2 undef = .pointer (some ⟨B, 0, none⟩) := hk.same 2 (by simp)
    have c0 : w1.cell? ⟨B, 0, none⟩ = some (vo) := Below.keeps hk.ext _ _ (by simp [go_sem, kb, k0, k1, k2, k3, k4])
    have c1 : w1.cell? ⟨bx, ox, none⟩ = some (.slice Ax x.p.length cx) := Below.keeps hk.ext _ _ (by simp [go_sem, kb, k0, k1, k2, k3, k4])
    have c2 : w1.cell? ⟨bx, ox + 1, none⟩ = some (.bool x.had) := Below.keeps hk.ext _ _ (by simp [go_sem, kb, k0, k1, k2, k3, k4])
    have c3 : w1.cell? ⟨bx, ox + 2, none⟩ = some (.bool x.has) := Below.keeps hk.ext _ _ (by simp [go_sem, kb, k0, k1, k2, k3, k4])
    have c4 : w1.cell? ⟨bx, ox + 3, none⟩ = some (.int .u64 (x.old : Nat)) := Below.keeps hk.ext _ _ (by simp [go_sem, kb, k0, k1, k2, k3, k4])
    have c5 : w1.cell? ⟨bx, ox + 4, none⟩ = some (.int .u64 (x.new : Nat)) := Below.keeps hk.ext _ _ (by simp [go_sem, kb, k0, k1, k2, k3, k4])
    simp [Region.wanted, Oper.wp, Act.eval, go_sem, e2, c0, c1, c2, c3, c4, c5, kb, k0, k1, k2, k3, k4]
    exact hK _ _ (Below.refl _ _) rfl
    | 1, _ =>
    obtain rfl := Option.some.inj ho
    intro a1 w1 K hk hK
    have e0 : a1.tmps.getD 0 undef = .pointer (some ⟨bx, ox, none⟩) := hk.same 0 (by simp)
    simp [Region.wanted, Oper.wp, Act.eval, go_sem, e0, kb, k0, k1, k2, k3, k4]
    exact hK _ _ (Below.refl _ _) rfl
    | 2, _ =>
    obtain rfl := Option.some.inj ho
    intro a1 w1 K hk hK
    have d39 : a1.tmps.getD 39 undef = .pointer (some ⟨bx, ox, none⟩) := hk.deps ⟨1, .data⟩ (by simp) rfl _ _ rfl rfl
    simp [Region.wanted, Oper.wp, Act.eval, go_sem, d39, kb, k0, k1, k2, k3, k4]
    exact hK _ _ (Below.refl _ _) rfl
    | 3, _ =>
    obtain rfl := Option.some.inj ho
    intro a1 w1 K hk hK
    have d40 : a1.tmps.getD 40 undef = .pointer (some ⟨bx, ox, none⟩) := hk.deps ⟨2, .data⟩ (by simp) rfl _ _ rfl rfl
    have c0 : w1.cell? ⟨B, 0, none⟩ = some (vo) := Below.keeps hk.ext _ _ (by simp [go_sem, kb, k0, k1, k2, k3, k4])
    have c1 : w1.cell? ⟨bx, ox, none⟩ = some (.slice Ax x.p.length cx) := Below.keeps hk.ext _ _ (by simp [go_sem, kb, k0, k1, k2, k3, k4])
    have c2 : w1.cell? ⟨bx, ox + 1, none⟩ = some (.bool x.had) := Below.keeps hk.ext _ _ (by simp [go_sem, kb, k0, k1, k2, k3, k4])
    have c3 : w1.cell? ⟨bx, ox + 2, none⟩ = some (.bool x.has) := Below.keeps hk.ext _ _ (by simp [go_sem, kb, k0, k1, k2, k3, k4])
    have c4 : w1.cell? ⟨bx, ox + 3, none⟩ = some (.int .u64 (x.old : Nat)) := Below.keeps hk.ext _ _ (by simp [go_sem, kb, k0, k1, k2, k3, k4])
    have c5 : w1.cell? ⟨bx, ox + 4, none⟩ = some (.int .u64 (x.new : Nat)) := Below.keeps hk.ext _ _ (by simp [go_sem, kb, k0, k1, k2, k3, k4])
    simp [Region.wanted, Oper.wp, Act.eval, go_sem, d40, c0, c1, c2, c3, c4, c5, kb, k0, k1, k2, k3, k4]
    exact hK _ _ (Below.refl _ _) rfl
    | 4, _ =>
    obtain rfl := Option.some.inj ho
    intro a1 w1 K hk hK
    have d41 : a1.tmps.getD 41 undef = .agg #[.slice Ax x.p.length cx, .bool x.had, .bool x.has, .int .u64 (x.old : Nat), .int .u64 (x.new : Nat)] := hk.deps ⟨3, .data⟩ (by simp) rfl _ _ rfl rfl
    simp [Region.wanted, Oper.wp, Act.eval, go_sem, d41, kb, k0, k1, k2, k3, k4]
    refine (HO.out _ (HV.out.below (below_trans (by repeat (first | exact Below.refl _ _ | assumption | (refine Below.drew ?_) | (refine below_drewN' ?_ _) | (refine below_alloc' ?_ _))) hk.ext))).mono ?_
    rintro e w2 ⟨A9, n9, c9, rfl, hp9, hb9⟩
    exact hK _ _ hb9 ⟨A9, n9, c9, rfl, hp9⟩
    | 5, _ =>
    obtain rfl := Option.some.inj ho
    intro a1 w1 K hk hK
    have D42 : ∃ A9 n9 c9, (a1.tmps.getD 42 undef) = .agg #[.slice A9 n9 c9, .bool x.had, .bool x.has, .int .u64 (x.old : Nat), .int .u64 (x.new : Nat)] ∧ PtNew w1 (.slice A9 n9 c9) x.p := hk.deps ⟨4, .data⟩ (by simp) rfl _ _ rfl rfl
    obtain ⟨A9, n9, c9, D9, hpt⟩ := D42
    have D9x : a1.tmps[42]?.getD undef = .agg #[.slice A9 n9 c9, .bool x.had, .bool x.has, .int .u64 (x.old : Nat), .int .u64 (x.new : Nat)] := by rw [← D9]; simp
    simp [Region.wanted, Oper.wp, Act.eval, go_sem, D9, D9x]
    refine hK _ _ (by repeat (first | exact Below.refl _ _ | assumption | (refine Below.drew ?_) | (refine below_drewN' ?_ _) | (refine below_alloc' ?_ _))) ⟨_, A9, n9, c9, rfl, hpt.below (by repeat (first | exact Below.refl _ _ | assumption | (refine Below.drew ?_) | (refine below_drewN' ?_ _) | (refine below_alloc' ?_ _))), ?_, ?_, ?_, ?_, ?_⟩
    all_goals simp [go_sem]
  · intro vs w3 hl hb3 hv
    match vs, hl with
    | [v0, v1, v2, v3, v4, v5], _ =>
    obtain rfl : v0 = vo := hv 0 (by omega)
    obtain rfl : v1 = .pointer (some ⟨bx, ox, none⟩) := hv 1 (by omega)
    obtain rfl : v2 = .pointer (some ⟨bx, ox, none⟩) := hv 2 (by omega)
    obtain rfl : v3 = .agg #[.slice Ax x.p.length cx, .bool x.had, .bool x.has, .int .u64 (x.old : Nat), .int .u64 (x.new : Nat)] := hv 3 (by omega)
    have q4 : ∃ A9 n9 c9, v4 = .agg #[.slice A9 n9 c9, .bool x.had, .bool x.has, .int .u64 (x.old : Nat), .int .u64 (x.new : Nat)] ∧ PtNew w3 (.slice A9 n9 c9) x.p := hv 4 (by omega)
    have q5 : ∃ g A9 n9 c9, v5 = .slice (some ⟨g, 0, none⟩) 1 1 ∧ PtNew w3 (.slice A9 n9 c9) x.p ∧ w3.cell? ⟨g, 0, none⟩ = some (.slice A9 n9 c9) ∧ w3.cell? ⟨g, 1, none⟩ = some (.bool x.had) ∧ w3.cell? ⟨g, 2, none⟩ = some (.bool x.has) ∧ w3.cell? ⟨g, 3, none⟩ = some (.int .u64 (x.old : Nat)) ∧ w3.cell? ⟨g, 4, none⟩ = some (.int .u64 (x.new : Nat)) := hv 5 (by omega)
    clear hv
    obtain ⟨g, A9, n9, c9, rfl, hpt, g0, g1, g2, g3, g4⟩ := q5
    clear q4
    simp only [putAll, List.take_succ_cons, List.take_zero, List.drop_succ_cons, List.drop_zero, Act.put, List.setIfInBounds_toArray, List.set_cons_succ, List.set_cons_zero]
    have HX3 := Lib.hid hb3
    have HG := Lib.hid (show SrcC (PtNew w3) w3 (.slice (some ⟨g, 0, none⟩) 1 1) x from ⟨g, 1, _, rfl, g0, hpt, g1, g2, g3, g4⟩)
    clear hb3 g0 g1 g2 g3 g4 hpt k0 k1 k2 k3 k4 kb
    have HO3 := Lib.hid (show OwnC (PtNew w3) W w3 v0 o from (HI.out.2.1.below HX3.out).mono fun u p h => h.below HX3.out)
    have HB3 := Lib.hid (HI.out.2.2.1.trans (HX3.out.mono HI.out.2.2.1.size))
    have HBl := Lib.hid (show w3.heap[B]? = some (.cells #[v0] 49 (0, 0)) from (HX3.out.block B hlB).trans HI.out.1)
    refine wpList_append_C (Pt := PtNew w3) rfl (.tmp 38) (.tmp 43) rfl W o x (fun u p h => h.rd) HO3.out HG.out HB3.out.size (by have := HI.out.2.2.2.2; omega) ?_
    intro v6 w4 hown4 hg4
    obtain ⟨A6, n6, c6, rfl⟩ := hown4.shape
    obtain ⟨hb4, hI4⟩ := InvT.push HI.out.2.2.2.1 HBl.out HO3.out HB3.out hown4 hg4
    have c4 := cell_of_one hb4
    have f4 := free_of_one hb4
    have HI4 := Lib.hid hI4
    clear hown4 hg4 hb4 hI4
    go_wp2_with fail
    go_ret
    exact ⟨rfl, HI4.out⟩

set_option maxRecDepth 8000 in
set_option maxHeartbeats 2000000 in
theorem tellY (W w : World) (B : Nat) (o : List Ch) (x : Ch) (px : Value) (hW : W.heap.size ≤ B) (hi : InvT W B o w) (hx : PtrC w px (some x)) (h1 : 1 ≤ x.p.length) (h40 : x.p.length ≤ 40) (hol : o.length ≤ 10000) :
    Calls Try.prog 51 #[.pointer none, px, .pointer (some ⟨B, 0, none⟩)] w fun e w' => e = .returned (.bool true) ∧ InvT W B (o ++ [x]) w' := by
  obtain ⟨bx, ox, rfl, vx, k0, hv, k1, k2, k3, k4⟩ := hx
  have HV := Lib.hid hv
  have HO := Lib.hid (show ∀ w', RdU w' vx (pti x.p) → Calls Try.prog 52 #[.agg #[vx, .bool x.had, .bool x.has, .int .u64 (x.old : Nat), .int .u64 (x.new : Nat)]] w' fun e w'' => OwnP w' x e w'' from fun w' h => own_any x vx w' h h1 h40)
  obtain ⟨Ax, cx, rfl, hx0⟩ := RdU.point hv
  obtain ⟨vo, hblk, hown, hbW⟩ := hi
  have kb := cell_of_one hblk
  have HI := Lib.hid (And.intro hblk (And.intro hown (And.intro hbW (And.intro hW hol))))
  have hlB : B < w.heap.size := lt_of_block hblk
  have hlx : bx < w.heap.size := World.block_lt_of_cell? w _ k0
  clear hblk hown hbW hv hx0 h1 h40 hW hol
  go_enter Try.func51, Try.ntmps51
  go_wp2_with fail
  refine wp_region_vals 6 [fun v _ => v = vo,
    fun v _ => v = .pointer (some ⟨bx, ox, none⟩),
    fun v _ => v = .pointer (some ⟨bx, ox, none⟩),
    fun v _ => v = .agg #[.slice Ax x.p.length cx, .bool x.had, .bool x.has, .int .u64 (x.old : Nat), .int .u64 (x.new : Nat)],
    fun v9 w9 => ∃ A9 n9 c9, v9 = .agg #[.slice A9 n9 c9, .bool x.had, .bool x.has, .int .u64 (x.old : Nat), .int .u64 (x.new : Nat)] ∧ PtNew w9 (.slice A9 n9 c9) x.p,
    fun v9 w9 => ∃ g A9 n9 c9, v9 = .slice (some ⟨g, 0, none⟩) 1 1 ∧ PtNew w9 (.slice A9 n9 c9) x.p ∧ w9.cell? ⟨g, 0, none⟩ = some (.slice A9 n9 c9) ∧ w9.cell? ⟨g, 1, none⟩ = some (.bool x.had) ∧ w9.cell? ⟨g, 2, none⟩ = some (.bool x.has) ∧ w9.cell? ⟨g, 3, none⟩ = some (.int .u64 (x.old : Nat)) ∧ w9.cell? ⟨g, 4, none⟩ = some (.int .u64 (x.new : Nat))]
    (by kernel_rfl) (by kernel_rfl) (by kernel_rfl) (by kernel_rfl) ?_ ?_ ?_
  · intro V hV v w1 w2 h hb
    simp only [List.mem_cons, List.not_mem_nil, or_false] at hV
    rcases hV with rfl | rfl | rfl | rfl | rfl | rfl
    all_goals first | exact h | (first | (obtain ⟨A9, n9, c9, h1, h2⟩ := h; exact ⟨A9, n9, c9, h1, h2.below hb⟩) | (obtain ⟨g, A9, n9, c9, h1, h2, h3, h4, h5, h6, h7⟩ := h; exact ⟨g, A9, n9, c9, h1, h2.below hb, Below.keeps hb _ _ h3, Below.keeps hb _ _ h4, Below.keeps hb _ _ h5, Below.keeps hb _ _ h6, Below.keeps hb _ _ h7⟩))
  · intro i o hi ho
    match i, hi with
    | 0, _ =>
    obtain rfl := Option.some.inj ho
    intro a1 w1 K hk hK
    have e2 : a1.tmps.getD 2 undef = .pointer (some ⟨B, 0, none⟩) := hk.same 2 (by simp)
    have c0 : w1.cell? ⟨B, 0, none⟩ = some (vo) := Below.keeps hk.ext _ _ (by simp [go_sem, kb, k0, k1, k2, k3, k4])
    have c1 : w1.cell? ⟨bx, ox, none⟩ = some (.slice Ax x.p.length cx) := Below.keeps hk.ext _ _ (by simp [go_sem, kb, k0, k1, k2, k3, k4])
    have c2 : w1.cell? ⟨bx, ox + 1, none⟩ = some (.bool x.had) := Below.keeps hk.ext _ _ (by simp [go_sem, kb, k0, k1, k2, k3, k4])
    have c3 : w1.cell? ⟨bx, ox + 2, none⟩ = some (.bool x.has) := Below.keeps hk.ext _ _ (by simp [go_sem, kb, k0, k1, k2, k3, k4])
    have c4 : w1.cell? ⟨bx, ox + 3, none⟩ = some (.int .u64 (x.old : Nat)) := Below.keeps hk.ext _ _ (by simp [go_sem, kb, k0, k1, k2, k3, k4])
    have c5 : w1.cell? ⟨bx, ox + 4, none⟩ = some (.int .u64 (x.new : Nat)) := Below.keeps hk.ext _ _ (by simp [go_sem, kb, k0, k1, k2, k3, k4])
    simp [Region.wanted, Oper.wp, Act.eval, go_sem, e2, c0, c1, c2, c3, c4, c5, kb, k0, k1, k2, k3, k4]
    exact hK _ _ (Below.refl _ _) rfl
    | 1, _ =>
    obtain rfl := Option.some.inj ho
    intro a1 w1 K hk hK
    have e1 : a1.tmps.getD 1 undef = .pointer (some ⟨bx, ox, none⟩) := hk.same 1 (by simp)
    simp [Region.wanted, Oper.wp, Act.eval, go_sem, e1, kb, k0, k1, k2, k3, k4]
    exact hK _ _ (Below.refl _ _) rfl
    | 2, _ =>
    obtain rfl := Option.some.inj ho
    intro a1 w1 K hk hK
    have d49 : a1.tmps.getD 49 undef = .pointer (some ⟨bx, ox, none⟩) := hk.deps ⟨1, .data⟩ (by simp) rfl _ _ rfl rfl
    simp [Region.wanted, Oper.wp, Act.eval, go_sem, d49, kb, k0, k1, k2, k3, k4]
    exact hK _ _ (Below.refl _ _) rfl
    | 3, _ =>
    obtain rfl := Option.some.inj ho
    intro a1 w1 K hk hK
    have d50 : a1.tmps.getD 50 undef = .pointer (some ⟨bx, ox, none⟩) := hk.deps ⟨2, .data⟩ (by simp) rfl _ _ rfl rfl
    have c0 : w1.cell? ⟨B, 0, none⟩ = some (vo) := Below.keeps hk.ext _ _ (by simp [go_sem, kb, k0, k1, k2, k3, k4])
    have c1 : w1.cell? ⟨bx, ox, none⟩ = some (.slice Ax x.p.length cx) := Below.keeps hk.ext _ _ (by simp [go_sem, kb, k0, k1, k2, k3, k4])
    have c2 : w1.cell? ⟨bx, ox + 1, none⟩ = some (.bool x.had) := Below.keeps hk.ext _ _ (by simp [go_sem, kb, k0, k1, k2, k3, k4])
    have c3 : w1.cell? ⟨bx, ox + 2, none⟩ = some (.bool x.has) := Below.keeps hk.ext _ _ (by simp [go_sem, kb, k0, k1, k2, k3, k4])
    have c4 : w1.cell? ⟨bx, ox + 3, none⟩ = some (.int .u64 (x.old : Nat)) := Below.keeps hk.ext _ _ (by simp [go_sem, kb, k0, k1, k2, k3, k4])
    have c5 : w1.cell? ⟨bx, ox + 4, none⟩ = some (.int .u64 (x.new : Nat)) := Below.keeps hk.ext _ _ (by simp [go_sem, kb, k0, k1, k2, k3, k4])
    simp [Region.wanted, Oper.wp, Act.eval, go_sem, d50, c0, c1, c2, c3, c4, c5, kb, k0, k1, k2, k3, k4]
    exact hK _ _ (Below.refl _ _) rfl
    | 4, _ =>
    obtain rfl := Option.some.inj ho
    intro a1 w1 K hk hK
    have d51 : a1.tmps.getD 51 undef = .agg #[.slice Ax x.p.length cx, .bool x.had, .bool x.has, .int .u64 (x.old : Nat), .int .u64 (x.new : Nat)] := hk.deps ⟨3, .data⟩ (by simp) rfl _ _ rfl rfl
    simp [Region.wanted, Oper.wp, Act.eval, go_sem, d51, kb, k0, k1, k2, k3, k4]
    refine (HO.out _ (HV.out.below (below_trans (by repeat (first | exact Below.refl _ _ | assumption | (refine Below.drew ?_) | (refine below_drewN' ?_ _) | (refine below_alloc' ?_ _))) hk.ext))).mono ?_
    rintro e w2 ⟨A9, n9, c9, rfl, hp9, hb9⟩
    exact hK _ _ hb9 ⟨A9, n9, c9, rfl, hp9⟩
    | 5, _ =>
    obtain rfl := Option.some.inj ho
    intro a1 w1 K hk hK
    have D52 : ∃ A9 n9 c9, (a1.tmps.getD 52 undef) = .agg #[.slice A9 n9 c9, .bool x.had, .bool x.has, .int .u64 (x.old : Nat), .int .u64 (x.new : Nat)] ∧ PtNew w1 (.slice A9 n9 c9) x.p := hk.deps ⟨4, .data⟩ (by simp) rfl _ _ rfl rfl
    obtain ⟨A9, n9, c9, D9, hpt⟩ := D52
    have D9x : a1.tmps[52]?.getD undef = .agg #[.slice A9 n9 c9, .bool x.had, .bool x.has, .int .u64 (x.old : Nat), .int .u64 (x.new : Nat)] := by rw [← D9]; simp
    simp [Region.wanted, Oper.wp, Act.eval, go_sem, D9, D9x]
    refine hK _ _ (by repeat (first | exact Below.refl _ _ | assumption | (refine Below.drew ?_) | (refine below_drewN' ?_ _) | (refine below_alloc' ?_ _))) ⟨_, A9, n9, c9, rfl, hpt.below (by repeat (first | exact Below.refl _ _ | assumption | (refine Below.drew ?_) | (refine below_drewN' ?_ _) | (refine below_alloc' ?_ _))), ?_, ?_, ?_, ?_, ?_⟩
    all_goals simp [go_sem]
  · intro vs w3 hl hb3 hv
    match vs, hl with
    | [v0, v1, v2, v3, v4, v5], _ =>
    obtain rfl : v0 = vo := hv 0 (by omega)
    obtain rfl : v1 = .pointer (some ⟨bx, ox, none⟩) := hv 1 (by omega)
    obtain rfl : v2 = .pointer (some ⟨bx, ox, none⟩) := hv 2 (by omega)
    obtain rfl : v3 = .agg #[.slice Ax x.p.length cx, .bool x.had, .bool x.has, .int .u64 (x.old : Nat), .int .u64 (x.new : Nat)] := hv 3 (by omega)
    have q4 : ∃ A9 n9 c9, v4 = .agg #[.slice A9 n9 c9, .bool x.had, .bool x.has, .int .u64 (x.old : Nat), .int .u64 (x.new : Nat)] ∧ PtNew w3 (.slice A9 n9 c9) x.p := hv 4 (by omega)
    have q5 : ∃ g A9 n9 c9, v5 = .slice (some ⟨g, 0, none⟩) 1 1 ∧ PtNew w3 (.slice A9 n9 c9) x.p ∧ w3.cell? ⟨g, 0, none⟩ = some (.slice A9 n9 c9) ∧ w3.cell? ⟨g, 1, none⟩ = some (.bool x.had) ∧ w3.cell? ⟨g, 2, none⟩ = some (.bool x.has) ∧ w3.cell? ⟨g, 3, none⟩ = some (.int .u64 (x.old : Nat)) ∧ w3.cell? ⟨g, 4, none⟩ = some (.int .u64 (x.new : Nat)) := hv 5 (by omega)
    clear hv
    obtain ⟨g, A9, n9, c9, rfl, hpt, g0, g1, g2, g3, g4⟩ := q5
    clear q4
    simp only [putAll, List.take_succ_cons, List.take_zero, List.drop_succ_cons, List.drop_zero, Act.put, List.setIfInBounds_toArray, List.set_cons_succ, List.set_cons_zero]
    have HX3 := Lib.hid hb3
    have HG := Lib.hid (show SrcC (PtNew w3) w3 (.slice (some ⟨g, 0, none⟩) 1 1) x from ⟨g, 1, _, rfl, g0, hpt, g1, g2, g3, g4⟩)
    clear hb3 g0 g1 g2 g3 g4 hpt k0 k1 k2 k3 k4 kb
    have HO3 := Lib.hid (show OwnC (PtNew w3) W w3 v0 o from (HI.out.2.1.below HX3.out).mono fun u p h => h.below HX3.out)
    have HB3 := Lib.hid (HI.out.2.2.1.trans (HX3.out.mono HI.out.2.2.1.size))
    have HBl := Lib.hid (show w3.heap[B]? = some (.cells #[v0] 49 (0, 0)) from (HX3.out.block B hlB).trans HI.out.1)
    refine wpList_append_C (Pt := PtNew w3) rfl (.tmp 48) (.tmp 53) rfl W o x (fun u p h => h.rd) HO3.out HG.out HB3.out.size (by have := HI.out.2.2.2.2; omega) ?_
    intro v6 w4 hown4 hg4
    obtain ⟨A6, n6, c6, rfl⟩ := hown4.shape
    obtain ⟨hb4, hI4⟩ := InvT.push HI.out.2.2.2.1 HBl.out HO3.out HB3.out hown4 hg4
    have c4 := cell_of_one hb4
    have f4 := free_of_one hb4
    have HI4 := Lib.hid hI4
    clear hown4 hg4 hb4 hI4
    go_wp2_with fail
    go_ret
    exact ⟨rfl, HI4.out⟩

end Go.Proofs.Ytjokcagggmjgmaa
/-! ThenG -/
namespace Go.Proofs.Ytjokcagggmjgmaa
open Go.RowKit
set_option linter.unusedVariables false
set_option linter.unusedSimpArgs false

/-- what the closure says of a pair -/
def TellP (W : World) (B : Nat) (o : List Ch) (p : Option Ch × Option Ch) (e : Ending) (w' : World) : Prop :=
  e = .returned (.bool (fitC p)) ∧ (fitC p = true → InvT W B (o ++ (combC p).toList) w') ∧ Below W.heap.size W w'

theorem cells_setCell {w : World} {b k : Nat} {cur : Array Value} {u : Value} {t : TypeId} {fr : Nat × Nat} (h : w.heap[b]? = some (.cells cur t fr)) : (w.setCell ⟨b, k, none⟩ u).heap[b]? = some (.cells (cur.setIfInBounds k u) t fr) := by
  have hlt := lt_of_block h
  have h' : w.heap[b] = .cells cur t fr := by simpa [Array.getElem?_eq_getElem hlt] using h
  show (w.heap.modify b _)[b]? = _
  rw [Array.getElem?_eq_getElem (by simpa using hlt), Array.getElem_modify_self, h']
  rfl
theorem store5 {w3 : World} {g : Nat} (hg : w3.heap[g]? = some Zcells) (a b c d e : Value) :
    (((((w3.setCell ⟨g, 0, none⟩ a).setCell ⟨g, 1, none⟩ b).setCell ⟨g, 2, none⟩ c).setCell ⟨g, 3, none⟩ d).setCell ⟨g, 4, none⟩ e).heap[g]? = some (.cells #[a, b, c, d, e] 87 (0, 0)) ∧
    (∀ k, k ≠ g → (((((w3.setCell ⟨g, 0, none⟩ a).setCell ⟨g, 1, none⟩ b).setCell ⟨g, 2, none⟩ c).setCell ⟨g, 3, none⟩ d).setCell ⟨g, 4, none⟩ e).heap[k]? = w3.heap[k]?) ∧
    (∀ B, B ≤ g → Below B w3 (((((w3.setCell ⟨g, 0, none⟩ a).setCell ⟨g, 1, none⟩ b).setCell ⟨g, 2, none⟩ c).setCell ⟨g, 3, none⟩ d).setCell ⟨g, 4, none⟩ e)) := by
  refine ⟨?_, fun k hk => ?_, fun B hB => ?_⟩
  · have := cells_setCell (k := 4) (u := e) (cells_setCell (k := 3) (u := d) (cells_setCell (k := 2) (u := c) (cells_setCell (k := 1) (u := b) (cells_setCell (k := 0) (u := a) hg))))
    exact this
  · repeat rw [Below.heap_setCell _ _ _ _ hk]
  · exact (((((Below.refl B w3).setCell hB _).setCell hB _).setCell hB _).setCell hB _).setCell hB _

theorem InvT.bel {W w : World} {B : Nat} {o : List Ch} (h : InvT W B o w) : Below W.heap.size W w := let ⟨_, _, _, h⟩ := h; h
theorem InvT.below {W w w' : World} {B : Nat} {o : List Ch} (h : InvT W B o w) (hB : B < w.heap.size) (hb : Below w.heap.size w w') : InvT W B o w' :=
  let ⟨vo, h1, h2, h3⟩ := h
  ⟨vo, (hb.block B hB).trans h1, (h2.below hb).mono fun u p h => h.below hb, h3.trans (hb.mono h3.size)⟩
set_option maxRecDepth 8000 in
set_option maxHeartbeats 4000000 in
theorem tellXY (W w : World) (B : Nat) (o : List Ch) (x y : Ch) (px py : Value) (hW : W.heap.size ≤ B) (hi : InvT W B o w) (hx : PtrC w px (some x)) (hy : PtrC w py (some y)) (h1 : 1 ≤ x.p.length) (h40 : x.p.length ≤ 40) (hol : o.length ≤ 10000) :
    Calls Try.prog 51 #[px, py, .pointer (some ⟨B, 0, none⟩)] w fun e w' => TellP W B o (some x, some y) e w' := by
  obtain ⟨bx, ox, rfl, vx, k0, hv, k1, k2, k3, k4⟩ := hx
  obtain ⟨by1, oy, rfl, vy, m0, hvy, m1, m2, m3, m4⟩ := hy
  have HV := Lib.hid hv
  obtain ⟨Ax, cx, rfl, hx0⟩ := RdU.point hv
  clear hv hvy hx0 m0
  obtain ⟨vo, hblk, hown, hbW⟩ := hi
  have kb := cell_of_one hblk
  have HI := Lib.hid (And.intro hblk (And.intro hown (And.intro hbW (And.intro hW hol))))
  have hlB : B < w.heap.size := lt_of_block hblk
  have hlx : bx < w.heap.size := World.block_lt_of_cell? w _ k0
  have hly : by1 < w.heap.size := World.block_lt_of_cell? w _ m1
  clear hblk hown hbW hW hol
  obtain ⟨xp, xhad, xhas, xold, xnew⟩ := x
  obtain ⟨yp, yhad, yhas, yold, ynew⟩ := y
  simp only at k0 k1 k2 k3 k4 m1 m2 m3 m4 h1 h40
  have HO := Lib.hid (show ∀ w', RdU w' (.slice Ax xp.length cx) (pti xp) → Calls Try.prog 52 #[.agg #[.slice Ax xp.length cx, .bool xhad, .bool yhas, .int .u64 (xold : Nat), .int .u64 (ynew : Nat)]] w' fun e w'' => OwnP w' ⟨xp, xhad, yhas, xold, ynew⟩ e w'' from fun w' h => own_any ⟨xp, xhad, yhas, xold, ynew⟩ _ w' h h1 h40)
  have HRi := Lib.hid (fun (v : Value) (w : World) => right_any v ⟨xp, xhad, yhas, xold, ynew⟩ w)
  simp only at HRi HV
  clear h1 h40
  obtain ⟨b4, e4⟩ : ∃ b, ((xnew : Int) != (yold : Int)) = b := ⟨_, rfl⟩
  have he4 : decide ((xnew : Int) ≠ (yold : Int)) = b4 := by rw [← e4]; by_cases e : (xnew : Int) = yold <;> simp [e]
  have HF := Lib.hid (show fitC (some (⟨xp, xhad, xhas, xold, xnew⟩ : Ch), some (⟨yp, yhad, yhas, yold, ynew⟩ : Ch)) = !(xhas != yhad || b4) by unfold fitC; simp only; rw [he4])
  have HCo := Lib.hid (show (combC (some (⟨xp, xhad, xhas, xold, xnew⟩ : Ch), some (⟨yp, yhad, yhas, yold, ynew⟩ : Ch))).toList = if (⟨xp, xhad, yhas, xold, ynew⟩ : Ch).right then [⟨xp, xhad, yhas, xold, ynew⟩] else [] by
    show (if (joinC _ _).right = true then some (joinC _ _) else none).toList = _
    unfold joinC
    split <;> rfl)
  clear he4
  obtain ⟨rr, hrr⟩ : ∃ rr, (⟨xp, xhad, yhas, xold, ynew⟩ : Ch).right = rr := ⟨_, rfl⟩
  rw [hrr] at HRi HCo
  clear hrr
  unfold TellP
  rw [HF.out]
  generalize (combC (some (⟨xp, xhad, xhas, xold, xnew⟩ : Ch), some (⟨yp, yhad, yhas, yold, ynew⟩ : Ch))).toList = cl at *
  clear HF
  cases xhas <;> cases yhad <;> cases b4
  all_goals
    go_enter Try.func51, Try.ntmps51
    go_wp2_with fail
    go_quiet (fail)
    go_wp2_with fail
  all_goals first
    | (go_ret
       have hbW := HI.out.2.2.1
       exact ⟨rfl, fun h => absurd h (by decide), by repeat (first | exact hbW | (refine Below.drew ?_) | (refine (Below.trans (b := w) ?_ ((drewN_below w _).mono hbW.size))))⟩)
    | skip
  all_goals
    refine wp_region_vals 23 [fun v _ => v = .pointer (some ⟨bx, ox, none⟩),
      fun v _ => v = .pointer (some ⟨bx, ox, none⟩),
      fun v _ => v = .pointer (some ⟨bx, ox, none⟩),
      fun v _ => v = .slice Ax xp.length cx,
      fun v _ => v = .pointer (some ⟨bx, ox, none⟩),
      fun v _ => v = .pointer (some ⟨bx, ox, none⟩),
      fun v _ => v = .pointer (some ⟨bx, ox + 1, none⟩),
      fun v _ => v = .bool xhad,
      fun v _ => v = .pointer (some ⟨by1, oy, none⟩),
      fun v _ => v = .pointer (some ⟨by1, oy, none⟩),
      fun v _ => v = .pointer (some ⟨by1, oy + 2, none⟩),
      fun v _ => v = .bool yhas,
      fun v _ => v = .pointer (some ⟨bx, ox, none⟩),
      fun v _ => v = .pointer (some ⟨bx, ox, none⟩),
      fun v _ => v = .pointer (some ⟨bx, ox + 3, none⟩),
      fun v _ => v = .int .u64 (xold : Nat),
      fun v _ => v = .pointer (some ⟨by1, oy, none⟩),
      fun v _ => v = .pointer (some ⟨by1, oy, none⟩),
      fun v _ => v = .pointer (some ⟨by1, oy + 4, none⟩),
      fun v _ => v = .int .u64 (ynew : Nat),
      fun v _ => v = .agg #[.slice Ax xp.length cx, .bool xhad, .bool yhas, .int .u64 (xold : Nat), .int .u64 (ynew : Nat)],
      fun v9 w9 => ∃ A9 n9 c9, v9 = .agg #[.slice A9 n9 c9, .bool xhad, .bool yhas, .int .u64 (xold : Nat), .int .u64 (ynew : Nat)] ∧ PtNew w9 (.slice A9 n9 c9) xp,
      fun v9 w9 => ∃ g, v9 = .pointer (some ⟨g, 0, none⟩) ∧ w.heap.size ≤ g ∧ w9.heap[g]? = some Zcells]
      (by kernel_rfl) (by kernel_rfl) (by kernel_rfl) (by kernel_rfl) ?_ ?_ ?_
    · intro V hV v w1 w2 h hb
      simp only [List.mem_cons, List.not_mem_nil, or_false] at hV
      rcases hV with rfl | rfl | rfl | rfl | rfl | rfl | rfl | rfl | rfl | rfl | rfl | rfl | rfl | rfl | rfl | rfl | rfl | rfl | rfl | rfl | rfl | rfl | rfl
      all_goals first | exact h | (first | (obtain ⟨A9, n9, c9, h1, h2⟩ := h; exact ⟨A9, n9, c9, h1, h2.below hb⟩) | (obtain ⟨g, h1, h2, h3⟩ := h; exact ⟨g, h1, h2, (hb.block g (Array.getElem?_eq_some_iff.1 h3).1).trans h3⟩))
    · intro i o hi ho
      match i, hi with
      | 0, _ =>
      obtain rfl := Option.some.inj ho
      intro a1 w1 K hk hK
      have e0 : a1.tmps.getD 0 undef = .pointer (some ⟨bx, ox, none⟩) := hk.same 0 (by simp)
      simp [Region.wanted, Oper.wp, Act.eval, go_sem, e0, k0, k1, k3, m2, m4]
      exact hK _ _ (Below.refl _ _) rfl
      | 1, _ =>
      obtain rfl := Option.some.inj ho
      intro a1 w1 K hk hK
      have d7 : a1.tmps.getD 7 undef = .pointer (some ⟨bx, ox, none⟩) := hk.deps ⟨0, .data⟩ (by simp) rfl _ _ rfl rfl
      simp [Region.wanted, Oper.wp, Act.eval, go_sem, d7, k0, k1, k3, m2, m4]
      exact hK _ _ (Below.refl _ _) rfl
      | 2, _ =>
      obtain rfl := Option.some.inj ho
      intro a1 w1 K hk hK
      have d8 : a1.tmps.getD 8 undef = .pointer (some ⟨bx, ox, none⟩) := hk.deps ⟨1, .data⟩ (by simp) rfl _ _ rfl rfl
      simp [Region.wanted, Oper.wp, Act.eval, go_sem, d8, k0, k1, k3, m2, m4]
      exact hK _ _ (Below.refl _ _) rfl
      | 3, _ =>
      obtain rfl := Option.some.inj ho
      intro a1 w1 K hk hK
      have d9 : a1.tmps.getD 9 undef = .pointer (some ⟨bx, ox, none⟩) := hk.deps ⟨2, .data⟩ (by simp) rfl _ _ rfl rfl
      have c0 : w1.cell? ⟨bx, ox, none⟩ = some (.slice Ax xp.length cx) := Below.keeps hk.ext _ _ (by simp [go_sem, k0, k1, k3, m2, m4])
      have c1 : w1.cell? ⟨bx, ox + 1, none⟩ = some (.bool xhad) := Below.keeps hk.ext _ _ (by simp [go_sem, k0, k1, k3, m2, m4])
      have c2 : w1.cell? ⟨bx, ox + 3, none⟩ = some (.int .u64 (xold : Nat)) := Below.keeps hk.ext _ _ (by simp [go_sem, k0, k1, k3, m2, m4])
      have c3 : w1.cell? ⟨by1, oy + 2, none⟩ = some (.bool yhas) := Below.keeps hk.ext _ _ (by simp [go_sem, k0, k1, k3, m2, m4])
      have c4 : w1.cell? ⟨by1, oy + 4, none⟩ = some (.int .u64 (ynew : Nat)) := Below.keeps hk.ext _ _ (by simp [go_sem, k0, k1, k3, m2, m4])
      simp [Region.wanted, Oper.wp, Act.eval, go_sem, d9, c0, c1, c2, c3, c4, k0, k1, k3, m2, m4]
      exact hK _ _ (Below.refl _ _) rfl
      | 4, _ =>
      obtain rfl := Option.some.inj ho
      intro a1 w1 K hk hK
      have e0 : a1.tmps.getD 0 undef = .pointer (some ⟨bx, ox, none⟩) := hk.same 0 (by simp)
      simp [Region.wanted, Oper.wp, Act.eval, go_sem, e0, k0, k1, k3, m2, m4]
      exact hK _ _ (Below.refl _ _) rfl
      | 5, _ =>
      obtain rfl := Option.some.inj ho
      intro a1 w1 K hk hK
      have d11 : a1.tmps.getD 11 undef = .pointer (some ⟨bx, ox, none⟩) := hk.deps ⟨4, .data⟩ (by simp) rfl _ _ rfl rfl
      simp [Region.wanted, Oper.wp, Act.eval, go_sem, d11, k0, k1, k3, m2, m4]
      exact hK _ _ (Below.refl _ _) rfl
      | 6, _ =>
      obtain rfl := Option.some.inj ho
      intro a1 w1 K hk hK
      have d12 : a1.tmps.getD 12 undef = .pointer (some ⟨bx, ox, none⟩) := hk.deps ⟨5, .data⟩ (by simp) rfl _ _ rfl rfl
      simp [Region.wanted, Oper.wp, Act.eval, go_sem, d12, k0, k1, k3, m2, m4]
      exact hK _ _ (Below.refl _ _) rfl
      | 7, _ =>
      obtain rfl := Option.some.inj ho
      intro a1 w1 K hk hK
      have d13 : a1.tmps.getD 13 undef = .pointer (some ⟨bx, ox + 1, none⟩) := hk.deps ⟨6, .data⟩ (by simp) rfl _ _ rfl rfl
      have c0 : w1.cell? ⟨bx, ox, none⟩ = some (.slice Ax xp.length cx) := Below.keeps hk.ext _ _ (by simp [go_sem, k0, k1, k3, m2, m4])
      have c1 : w1.cell? ⟨bx, ox + 1, none⟩ = some (.bool xhad) := Below.keeps hk.ext _ _ (by simp [go_sem, k0, k1, k3, m2, m4])
      have c2 : w1.cell? ⟨bx, ox + 3, none⟩ = some (.int .u64 (xold : Nat)) := Below.keeps hk.ext _ _ (by simp [go_sem, k0, k1, k3, m2, m4])
      have c3 : w1.cell? ⟨by1, oy + 2, none⟩ = some (.bool yhas) := Below.keeps hk.ext _ _ (by simp [go_sem, k0, k1, k3, m2, m4])
      have c4 : w1.cell? ⟨by1, oy + 4, none⟩ = some (.int .u64 (ynew : Nat)) := Below.keeps hk.ext _ _ (by simp [go_sem, k0, k1, k3, m2, m4])
      simp [Region.wanted, Oper.wp, Act.eval, go_sem, d13, c0, c1, c2, c3, c4, k0, k1, k3, m2, m4]
      exact hK _ _ (Below.refl _ _) rfl
      | 8, _ =>
      obtain rfl := Option.some.inj ho
      intro a1 w1 K hk hK
      have e1 : a1.tmps.getD 1 undef = .pointer (some ⟨by1, oy, none⟩) := hk.same 1 (by simp)
      simp [Region.wanted, Oper.wp, Act.eval, go_sem, e1, k0, k1, k3, m2, m4]
      exact hK _ _ (Below.refl _ _) rfl
      | 9, _ =>
      obtain rfl := Option.some.inj ho
      intro a1 w1 K hk hK
      have d15 : a1.tmps.getD 15 undef = .pointer (some ⟨by1, oy, none⟩) := hk.deps ⟨8, .data⟩ (by simp) rfl _ _ rfl rfl
      simp [Region.wanted, Oper.wp, Act.eval, go_sem, d15, k0, k1, k3, m2, m4]
      exact hK _ _ (Below.refl _ _) rfl
      | 10, _ =>
      obtain rfl := Option.some.inj ho
      intro a1 w1 K hk hK
      have d16 : a1.tmps.getD 16 undef = .pointer (some ⟨by1, oy, none⟩) := hk.deps ⟨9, .data⟩ (by simp) rfl _ _ rfl rfl
      simp [Region.wanted, Oper.wp, Act.eval, go_sem, d16, k0, k1, k3, m2, m4]
      exact hK _ _ (Below.refl _ _) rfl
      | 11, _ =>
      obtain rfl := Option.some.inj ho
      intro a1 w1 K hk hK
      have d17 : a1.tmps.getD 17 undef = .pointer (some ⟨by1, oy + 2, none⟩) := hk.deps ⟨10, .data⟩ (by simp) rfl _ _ rfl rfl
      have c0 : w1.cell? ⟨bx, ox, none⟩ = some (.slice Ax xp.length cx) := Below.keeps hk.ext _ _ (by simp [go_sem, k0, k1, k3, m2, m4])
      have c1 : w1.cell? ⟨bx, ox + 1, none⟩ = some (.bool xhad) := Below.keeps hk.ext _ _ (by simp [go_sem, k0, k1, k3, m2, m4])
      have c2 : w1.cell? ⟨bx, ox + 3, none⟩ = some (.int .u64 (xold : Nat)) := Below.keeps hk.ext _ _ (by simp [go_sem, k0, k1, k3, m2, m4])
      have c3 : w1.cell? ⟨by1, oy + 2, none⟩ = some (.bool yhas) := Below.keeps hk.ext _ _ (by simp [go_sem, k0, k1, k3, m2, m4])
      have c4 : w1.cell? ⟨by1, oy + 4, none⟩ = some (.int .u64 (ynew : Nat)) := Below.keeps hk.ext _ _ (by simp [go_sem, k0, k1, k3, m2, m4])
      simp [Region.wanted, Oper.wp, Act.eval, go_sem, d17, c0, c1, c2, c3, c4, k0, k1, k3, m2, m4]
      exact hK _ _ (Below.refl _ _) rfl
      | 12, _ =>
      obtain rfl := Option.some.inj ho
      intro a1 w1 K hk hK
      have e0 : a1.tmps.getD 0 undef = .pointer (some ⟨bx, ox, none⟩) := hk.same 0 (by simp)
      simp [Region.wanted, Oper.wp, Act.eval, go_sem, e0, k0, k1, k3, m2, m4]
      exact hK _ _ (Below.refl _ _) rfl
      | 13, _ =>
      obtain rfl := Option.some.inj ho
      intro a1 w1 K hk hK
      have d19 : a1.tmps.getD 19 undef = .pointer (some ⟨bx, ox, none⟩) := hk.deps ⟨12, .data⟩ (by simp) rfl _ _ rfl rfl
      simp [Region.wanted, Oper.wp, Act.eval, go_sem, d19, k0, k1, k3, m2, m4]
      exact hK _ _ (Below.refl _ _) rfl
      | 14, _ =>
      obtain rfl := Option.some.inj ho
      intro a1 w1 K hk hK
      have d20 : a1.tmps.getD 20 undef = .pointer (some ⟨bx, ox, none⟩) := hk.deps ⟨13, .data⟩ (by simp) rfl _ _ rfl rfl
      simp [Region.wanted, Oper.wp, Act.eval, go_sem, d20, k0, k1, k3, m2, m4]
      exact hK _ _ (Below.refl _ _) rfl
      | 15, _ =>
      obtain rfl := Option.some.inj ho
      intro a1 w1 K hk hK
      have d21 : a1.tmps.getD 21 undef = .pointer (some ⟨bx, ox + 3, none⟩) := hk.deps ⟨14, .data⟩ (by simp) rfl _ _ rfl rfl
      have c0 : w1.cell? ⟨bx, ox, none⟩ = some (.slice Ax xp.length cx) := Below.keeps hk.ext _ _ (by simp [go_sem, k0, k1, k3, m2, m4])
      have c1 : w1.cell? ⟨bx, ox + 1, none⟩ = some (.bool xhad) := Below.keeps hk.ext _ _ (by simp [go_sem, k0, k1, k3, m2, m4])
      have c2 : w1.cell? ⟨bx, ox + 3, none⟩ = some (.int .u64 (xold : Nat)) := Below.keeps hk.ext _ _ (by simp [go_sem, k0, k1, k3, m2, m4])
      have c3 : w1.cell? ⟨by1, oy + 2, none⟩ = some (.bool yhas) := Below.keeps hk.ext _ _ (by simp [go_sem, k0, k1, k3, m2, m4])
      have c4 : w1.cell? ⟨by1, oy + 4, none⟩ = some (.int .u64 (ynew : Nat)) := Below.keeps hk.ext _ _ (by simp [go_sem, k0, k1, k3, m2, m4])
      simp [Region.wanted, Oper.wp, Act.eval, go_sem, d21, c0, c1, c2, c3, c4, k0, k1, k3, m2, m4]
      exact hK _ _ (Below.refl _ _) rfl
      | 16, _ =>
      obtain rfl := Option.some.inj ho
      intro a1 w1 K hk hK
      have e1 : a1.tmps.getD 1 undef = .pointer (some ⟨by1, oy, none⟩) := hk.same 1 (by simp)
      simp [Region.wanted, Oper.wp, Act.eval, go_sem, e1, k0, k1, k3, m2, m4]
      exact hK _ _ (Below.refl _ _) rfl
      | 17, _ =>
      obtain rfl := Option.some.inj ho
      intro a1 w1 K hk hK
      have d23 : a1.tmps.getD 23 undef = .pointer (some ⟨by1, oy, none⟩) := hk.deps ⟨16, .data⟩ (by simp) rfl _ _ rfl rfl
      simp [Region.wanted, Oper.wp, Act.eval, go_sem, d23, k0, k1, k3, m2, m4]
      exact hK _ _ (Below.refl _ _) rfl
      | 18, _ =>
      obtain rfl := Option.some.inj ho
      intro a1 w1 K hk hK
      have d24 : a1.tmps.getD 24 undef = .pointer (some ⟨by1, oy, none⟩) := hk.deps ⟨17, .data⟩ (by simp) rfl _ _ rfl rfl
      simp [Region.wanted, Oper.wp, Act.eval, go_sem, d24, k0, k1, k3, m2, m4]
      exact hK _ _ (Below.refl _ _) rfl
      | 19, _ =>
      obtain rfl := Option.some.inj ho
      intro a1 w1 K hk hK
      have d25 : a1.tmps.getD 25 undef = .pointer (some ⟨by1, oy + 4, none⟩) := hk.deps ⟨18, .data⟩ (by simp) rfl _ _ rfl rfl
      have c0 : w1.cell? ⟨bx, ox, none⟩ = some (.slice Ax xp.length cx) := Below.keeps hk.ext _ _ (by simp [go_sem, k0, k1, k3, m2, m4])
      have c1 : w1.cell? ⟨bx, ox + 1, none⟩ = some (.bool xhad) := Below.keeps hk.ext _ _ (by simp [go_sem, k0, k1, k3, m2, m4])
      have c2 : w1.cell? ⟨bx, ox + 3, none⟩ = some (.int .u64 (xold : Nat)) := Below.keeps hk.ext _ _ (by simp [go_sem, k0, k1, k3, m2, m4])
      have c3 : w1.cell? ⟨by1, oy + 2, none⟩ = some (.bool yhas) := Below.keeps hk.ext _ _ (by simp [go_sem, k0, k1, k3, m2, m4])
      have c4 : w1.cell? ⟨by1, oy + 4, none⟩ = some (.int .u64 (ynew : Nat)) := Below.keeps hk.ext _ _ (by simp [go_sem, k0, k1, k3, m2, m4])
      simp [Region.wanted, Oper.wp, Act.eval, go_sem, d25, c0, c1, c2, c3, c4, k0, k1, k3, m2, m4]
      exact hK _ _ (Below.refl _ _) rfl
      | 20, _ =>
      obtain rfl := Option.some.inj ho
      intro a1 w1 K hk hK
      have d10 : a1.tmps.getD 10 undef = .slice Ax xp.length cx := hk.deps ⟨3, .data⟩ (by simp) rfl _ _ rfl rfl
      have d10x : a1.tmps[10]?.getD undef = .slice Ax xp.length cx := by rw [← d10]; simp
      have d14 : a1.tmps.getD 14 undef = .bool xhad := hk.deps ⟨7, .data⟩ (by simp) rfl _ _ rfl rfl
      have d14x : a1.tmps[14]?.getD undef = .bool xhad := by rw [← d14]; simp
      have d18 : a1.tmps.getD 18 undef = .bool yhas := hk.deps ⟨11, .data⟩ (by simp) rfl _ _ rfl rfl
      have d18x : a1.tmps[18]?.getD undef = .bool yhas := by rw [← d18]; simp
      have d22 : a1.tmps.getD 22 undef = .int .u64 (xold : Nat) := hk.deps ⟨15, .data⟩ (by simp) rfl _ _ rfl rfl
      have d22x : a1.tmps[22]?.getD undef = .int .u64 (xold : Nat) := by rw [← d22]; simp
      have d26 : a1.tmps.getD 26 undef = .int .u64 (ynew : Nat) := hk.deps ⟨19, .data⟩ (by simp) rfl _ _ rfl rfl
      have d26x : a1.tmps[26]?.getD undef = .int .u64 (ynew : Nat) := by rw [← d26]; simp
      simp [Region.wanted, Oper.wp, Act.eval, go_sem, d10, d10x, d14, d14x, d18, d18x, d22, d22x, d26, d26x, k0, k1, k3, m2, m4]
      exact hK _ _ (Below.refl _ _) rfl
      | 21, _ =>
      obtain rfl := Option.some.inj ho
      intro a1 w1 K hk hK
      have d27 : a1.tmps.getD 27 undef = .agg #[.slice Ax xp.length cx, .bool xhad, .bool yhas, .int .u64 (xold : Nat), .int .u64 (ynew : Nat)] := hk.deps ⟨20, .data⟩ (by simp) rfl _ _ rfl rfl
      simp [Region.wanted, Oper.wp, Act.eval, go_sem, d27, k0, k1, k3, m2, m4]
      refine (HO.out _ (HV.out.below (below_trans (by repeat (first | exact Below.refl _ _ | assumption | (refine Below.drew ?_) | (refine below_drewN' ?_ _) | (refine below_alloc' ?_ _))) hk.ext))).mono ?_
      rintro e w2 ⟨A9, n9, c9, rfl, hp9, hb9⟩
      exact hK _ _ hb9 ⟨A9, n9, c9, rfl, hp9⟩
      | 22, _ =>
      obtain rfl := Option.some.inj ho
      intro a1 w1 K hk hK
      have hsz := hk.ext.size
      simp [Region.wanted, Oper.wp, Act.eval, go_sem, k0, k1, k3, m2, m4]
      exact hK _ _ (by repeat (first | exact Below.refl _ _ | assumption | (refine Below.drew ?_) | (refine below_drewN' ?_ _) | (refine below_alloc' ?_ _))) ⟨w1.heap.size, rfl, by simp at hsz; omega, heap_alloc_new _ _⟩
      | k + 23, hk => exact absurd hk (by omega)
    · intro vs w3 hl hb3 hv
      match vs, hl with
      | [v0, v1, v2, v3, v4, v5, v6, v7, v8, v9, v10, v11, v12, v13, v14, v15, v16, v17, v18, v19, v20, v21, v22], _ =>
      obtain rfl : v0 = .pointer (some ⟨bx, ox, none⟩) := hv 0 (by omega)
      obtain rfl : v1 = .pointer (some ⟨bx, ox, none⟩) := hv 1 (by omega)
      obtain rfl : v2 = .pointer (some ⟨bx, ox, none⟩) := hv 2 (by omega)
      obtain rfl : v3 = .slice Ax xp.length cx := hv 3 (by omega)
      obtain rfl : v4 = .pointer (some ⟨bx, ox, none⟩) := hv 4 (by omega)
      obtain rfl : v5 = .pointer (some ⟨bx, ox, none⟩) := hv 5 (by omega)
      obtain rfl : v6 = .pointer (some ⟨bx, ox + 1, none⟩) := hv 6 (by omega)
      obtain rfl : v7 = .bool xhad := hv 7 (by omega)
      obtain rfl : v8 = .pointer (some ⟨by1, oy, none⟩) := hv 8 (by omega)
      obtain rfl : v9 = .pointer (some ⟨by1, oy, none⟩) := hv 9 (by omega)
      obtain rfl : v10 = .pointer (some ⟨by1, oy + 2, none⟩) := hv 10 (by omega)
      obtain rfl : v11 = .bool yhas := hv 11 (by omega)
      obtain rfl : v12 = .pointer (some ⟨bx, ox, none⟩) := hv 12 (by omega)
      obtain rfl : v13 = .pointer (some ⟨bx, ox, none⟩) := hv 13 (by omega)
      obtain rfl : v14 = .pointer (some ⟨bx, ox + 3, none⟩) := hv 14 (by omega)
      obtain rfl : v15 = .int .u64 (xold : Nat) := hv 15 (by omega)
      obtain rfl : v16 = .pointer (some ⟨by1, oy, none⟩) := hv 16 (by omega)
      obtain rfl : v17 = .pointer (some ⟨by1, oy, none⟩) := hv 17 (by omega)
      obtain rfl : v18 = .pointer (some ⟨by1, oy + 4, none⟩) := hv 18 (by omega)
      obtain rfl : v19 = .int .u64 (ynew : Nat) := hv 19 (by omega)
      obtain rfl : v20 = .agg #[.slice Ax xp.length cx, .bool xhad, .bool yhas, .int .u64 (xold : Nat), .int .u64 (ynew : Nat)] := hv 20 (by omega)
      have q21 : ∃ A9 n9 c9, v21 = .agg #[.slice A9 n9 c9, .bool xhad, .bool yhas, .int .u64 (xold : Nat), .int .u64 (ynew : Nat)] ∧ PtNew w3 (.slice A9 n9 c9) xp := hv 21 (by omega)
      have q22 : ∃ g, v22 = .pointer (some ⟨g, 0, none⟩) ∧ w.heap.size ≤ g ∧ w3.heap[g]? = some Zcells := hv 22 (by omega)
      clear hv
      obtain ⟨A9, n9, c9, rfl, hpt⟩ := q21
      obtain ⟨g, rfl, hgw, hgz⟩ := q22
      simp only [putAll, List.take_succ_cons, List.take_zero, List.drop_succ_cons, List.drop_zero, Act.put, List.setIfInBounds_toArray, List.set_cons_succ, List.set_cons_zero]
      have HX3 := Lib.hid (below_trans (drewN_below w _) hb3)
      have zc : (w3.cell? ⟨g, 0, none⟩ = some (.slice none 0 0) ∧ w3.cell? ⟨g, 1, none⟩ = some (.bool false) ∧ w3.cell? ⟨g, 2, none⟩ = some (.bool false) ∧ w3.cell? ⟨g, 3, none⟩ = some (.int .u64 0) ∧ w3.cell? ⟨g, 4, none⟩ = some (.int .u64 0)) := by
        unfold Zcells at hgz
        refine ⟨?_, ?_, ?_, ?_, ?_⟩ <;> simp [World.cell?, hgz]
      obtain ⟨z0, z1, z2, z3, z4⟩ := zc
      have zf : ∀ k, w3.frozen? ⟨g, k, none⟩ = false := by unfold Zcells at hgz; intro k; simp [World.frozen?, hgz]
      have HZ := Lib.hid (And.intro hgz (And.intro hgw hpt))
      clear hgz hgw hpt hb3 k0 k1 k3 m2 m4 kb k2 k4 m1 m3
      go_wp2_with fail
      have S := store5 HZ.out.1 (.slice A9 n9 c9) (.bool xhad) (.bool yhas) (.int .u64 (xold : Nat)) (.int .u64 (ynew : Nat))
      generalize (((((w3.setCell ⟨g, 0, none⟩ (.slice A9 n9 c9)).setCell ⟨g, 1, none⟩ (.bool xhad)).setCell ⟨g, 2, none⟩ (.bool yhas)).setCell ⟨g, 3, none⟩ (.int .u64 (xold : Nat))).setCell ⟨g, 4, none⟩ (.int .u64 (ynew : Nat))) = w4 at *
      obtain ⟨s1, s2, s3⟩ := S
      have HX4 := Lib.hid (HX3.out.trans (s3 _ HZ.out.2.1))
      have HP4 := Lib.hid (HZ.out.2.2.keepBlock (w' := w4) fun b cur fr hbk => s2 b (by
        intro e
        rw [e, HZ.out.1] at hbk
        unfold Zcells at hbk
        injection hbk with hbk
        injection hbk with _ hbk _
        exact absurd hbk (by decide)))
      have t0 : w4.cell? ⟨g, 0, none⟩ = some (.slice A9 n9 c9) := by simp [World.cell?, s1]
      have t1 : w4.cell? ⟨g, 1, none⟩ = some (.bool xhad) := by simp [World.cell?, s1]
      have t2 : w4.cell? ⟨g, 2, none⟩ = some (.bool yhas) := by simp [World.cell?, s1]
      have t3 : w4.cell? ⟨g, 3, none⟩ = some (.int .u64 (xold : Nat)) := by simp [World.cell?, s1]
      have t4 : w4.cell? ⟨g, 4, none⟩ = some (.int .u64 (ynew : Nat)) := by simp [World.cell?, s1]
      have tl : g < w4.heap.size := lt_of_block s1
      have tb : w4.cell? ⟨B, 0, none⟩ = some vo := cell_of_one ((HX4.out.block B hlB).trans HI.out.1)
      have tlB : B < w4.heap.size := Nat.lt_of_lt_of_le hlB HX4.out.size
      clear s1 s2 s3 z0 z1 z2 z3 z4 zf HX3 HZ
      refine (HRi.out _ _).mono ?_
      rintro e w5 ⟨rfl, rfl⟩
      cases rr with
      | true =>
        rw [if_pos rfl] at HCo
        go_wp2_with ((at_builtin; refine wpList_append_C (Pt := PtNew w4) rfl (.tmp 31) (.tmp 33) rfl W o ⟨xp, xhad, yhas, xold, ynew⟩ ?_ ?_ ?_ ?_ ?_ ?_))
        · exact fun u p h => h.rd.below (by repeat (first | exact Below.refl _ _ | assumption | (refine Below.drew ?_) | (refine below_drewN' ?_ _) | (refine below_alloc' ?_ _)))
        · exact ((HI.out.2.1.below HX4.out).mono fun u p h => h.below HX4.out).below (by repeat (first | exact Below.refl _ _ | assumption | (refine Below.drew ?_) | (refine below_drewN' ?_ _) | (refine below_alloc' ?_ _)))
        · exact ⟨_, _, _, rfl, by simp [go_sem], HP4.out, by simp [go_sem], by simp [go_sem], by simp [go_sem], by simp [go_sem]⟩
        · have := HX4.out.size; have := HI.out.2.2.1.size; simp; omega
        · have := HI.out.2.2.2.2; omega
        intro v6 w6 hown6 hg6
        obtain ⟨A6, n6, c6, rfl⟩ := hown6.shape
        obtain ⟨hb6, hI6⟩ := InvT.push HI.out.2.2.2.1 (vo := vo) (o := o) (o' := o ++ [⟨xp, xhad, yhas, xold, ynew⟩]) (by
          rw [Below.heap_alloc _ _ _ (by simp; omega), Below.heap_alloc _ _ _ tlB]
          exact (HX4.out.block B hlB).trans HI.out.1) ((((HI.out.2.1.below HX4.out).mono fun u p h => h.below HX4.out).below (by repeat (first | exact Below.refl _ _ | assumption | (refine Below.drew ?_) | (refine below_drewN' ?_ _) | (refine below_alloc' ?_ _)))).mono fun u p h => h.below (by repeat (first | exact Below.refl _ _ | assumption | (refine Below.drew ?_) | (refine below_drewN' ?_ _) | (refine below_alloc' ?_ _)))) ((HI.out.2.2.1.trans (HX4.out.mono HI.out.2.2.1.size)).trans ((show Below w4.heap.size w4 _ from (by repeat (first | exact Below.refl _ _ | assumption | (refine Below.drew ?_) | (refine below_drewN' ?_ _) | (refine below_alloc' ?_ _)))).mono (by have := HX4.out.size; have := HI.out.2.2.1.size; omega))) (hown6.mono fun u p h => h.below (by repeat (first | exact Below.refl _ _ | assumption | (refine Below.drew ?_) | (refine below_drewN' ?_ _) | (refine below_alloc' ?_ _)))) hg6
        have c6 := cell_of_one hb6
        have f6 := free_of_one hb6
        have HI6 := Lib.hid hI6
        clear hown6 hg6 hb6 hI6 t0 t1 t2 t3 t4 tl tb tlB
        go_wp2_with fail
        go_ret
        exact ⟨rfl, fun _ => by rw [HCo.out]; exact HI6.out, HI6.out.bel⟩
      | false =>
        rw [if_neg (by simp)] at HCo
        have HI6 := Lib.hid (show InvT W B o w4 from ⟨vo, (HX4.out.block B hlB).trans HI.out.1, (HI.out.2.1.below HX4.out).mono fun u p h => h.below HX4.out, HI.out.2.2.1.trans (HX4.out.mono HI.out.2.2.1.size)⟩)
        clear t0 t1 t2 t3 t4 tl tb
        go_wp2_with fail
        go_ret
        exact ⟨rfl, fun _ => by rw [HCo.out, List.append_nil]; exact HI6.out.below tlB (by repeat (first | exact Below.refl _ _ | assumption | (refine Below.drew ?_) | (refine below_drewN' ?_ _) | (refine below_alloc' ?_ _))), (HI6.out.below tlB (by repeat (first | exact Below.refl _ _ | assumption | (refine Below.drew ?_) | (refine below_drewN' ?_ _) | (refine below_alloc' ?_ _)))).bel⟩
end Go.Proofs.Ytjokcagggmjgmaa
