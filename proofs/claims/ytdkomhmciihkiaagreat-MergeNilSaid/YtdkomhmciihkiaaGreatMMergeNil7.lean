/-
  Texts that the proof of MergeNil leans on, part 7: contracts of functions, and plain laws.
-/
import Derived.Test.YtdkomhmciihkiaaGreatMMergeNil6
import Derived.Laws.EntriesVeiled
/-! DifM -/
namespace Go.Proofs.YtdkomhmciihkiaaGreat
open Go.RowKit
set_option linter.unusedVariables false
set_option linter.unusedSimpArgs false
set_option maxRecDepth 100000

set_option maxHeartbeats 32000000 in
theorem both_lt (W w : World) (B k ba bb : Nat) (la lb : List En) (d : List Ch) (hW : W.heap.size ≤ B) (k1 : 1 ≤ k) (k16 : k ≤ 16) (ha : Nd W k ba la) (hb : Nd W k bb lb) (hne : ba ≠ bb) (hi : InvT W B d w) (hN : d.length + la.length + lb.length ≤ 10000) (ih : BoIH W B k (la.length + lb.length)) (hlv : lev la < lev lb) :
    Calls Tryz.prog 150 #[SV B, .pointer (some ⟨ba, 0, none⟩), .pointer (some ⟨bb, 0, none⟩)] w fun e w' => StP W B (d ++ changesL la lb) w e w' := by
  obtain ⟨vA, kpA, hhA⟩ := ha.hd
  obtain ⟨vB, kpB, hhB⟩ := hb.hd
  obtain ⟨pA1, pA2, pA3⟩ := ha.pre_ok
  obtain ⟨pB1, pB2, pB3⟩ := hb.pre_ok
  obtain ⟨uA, cA1, cA2⟩ := hhA.c1
  obtain ⟨uB, cB1, cB2⟩ := hhB.c1
  have hLA := fun w' (h : Below W.heap.size W w') => nlev_any w' ba _ (Below.keeps h _ _ hhA.c0)
  have hLB := fun w' (h : Below W.heap.size W w') => nlev_any w' bb _ (Below.keeps h _ _ hhB.c0)
  obtain ⟨lvA, hlA⟩ : ∃ lv : Int, (lev la : Int) - 1 = lv := ⟨_, rfl⟩
  obtain ⟨lvB, hlB⟩ : ∃ lv : Int, (lev lb : Int) - 1 = lv := ⟨_, rfl⟩
  rw [hlA] at hLA
  rw [hlB] at hLB
  have HLA := Lib.hid hLA
  have HLB := Lib.hid hLB
  have HPA := Lib.hid (fun w' (h : Below W.heap.size W w') => npref_any w' ba (preL la) uA (Below.keeps h _ _ cA1) (cA2.below h) (by omega) (by omega))
  have HPB := Lib.hid (fun w' (h : Below W.heap.size W w') => npref_any w' bb (preL lb) uB (Below.keeps h _ _ cB1) (cB2.below h) (by omega) (by omega))
  have HCA := Lib.hid (fun w' u (h : Below W.heap.size W w') (hu : RdU w' u (pti (preL lb))) => ncov_any w' k ba la (preL lb) u (ha.bel h) hu pB1 pB2 k1 k16)
  have HCB := Lib.hid (fun w' u (h : Below W.heap.size W w') (hu : RdU w' u (pti (preL la))) => ncov_any w' k bb lb (preL la) u (hb.bel h) hu pA1 pA2 k1 k16)
  obtain ⟨prA, hprA⟩ : ∃ p, preL la = p := ⟨_, rfl⟩
  obtain ⟨prB, hprB⟩ : ∃ p, preL lb = p := ⟨_, rfl⟩
  rw [hprA] at HPA HCB
  rw [hprB] at HPB HCA
  have HI := Lib.hid hi
  have hE := fun (h1 : lev la = lev lb) (h2 : cov la (preL lb) = true) (w' : World) (h : InvT W B d w') => even_any W w' B k ba bb la lb d hW k1 k16 ha hb h1 h2 h hN ih
  have hORD := apart_any ha hb
  have HAB := Lib.hid (And.intro ha hb)
  have HD := Lib.hid (And.intro hW (And.intro k1 (And.intro k16 hN)))
  have HLV := Lib.hid (And.intro hlA hlB)
  have HPR := Lib.hid (And.intro hprA hprB)
  have hbx : Below w.heap.size w (((w.alloc (.cells #[.func (.func 149) #[] #[.pointer (some ⟨B, 0, none⟩)]] 236)).alloc (.cells #[.pointer (some ⟨ba, 0, none⟩)] 113)).alloc (.cells #[.pointer (some ⟨bb, 0, none⟩)] 113)) := (by repeat (first | exact Below.refl _ _ | (refine Below.drew ?_) | (refine below_drewN' ?_ _) | (refine below_alloc' ?_ _) | (refine Below.setCell ?_ (by first | exact Nat.le_refl _ | (simp; done) | (simp; omega)) _)))
  have he := node_other (ha.bel (hi.bel.trans (hbx.mono hi.bel.size))) (hb.bel (hi.bel.trans (hbx.mono hi.bel.size))) hne
  have HBX := Lib.hid hbx
  have HALA := Lib.hid (fun (w' : World) (d' : List Ch) (h : InvT W B d' w') (hl : d'.length + la.length ≤ 10000) => dAll_any W w' B k (some ba) la d' _ _ as_gone hW ha k1 k16 h hl)
  have HALB := Lib.hid (fun (w' : World) (d' : List Ch) (h : InvT W B d' w') (hl : d'.length + lb.length ≤ 10000) => dAll_any W w' B k (some bb) lb d' _ _ as_come hW hb k1 k16 h hl)
  have L1 := Lib.hid (show d.length + la.length ≤ 10000 from by omega)
  have L2 := Lib.hid (show (d ++ la.map goneC).length + lb.length ≤ 10000 from by rw [List.length_append, List.length_map]; omega)
  have L3 := Lib.hid (show d.length + lb.length ≤ 10000 from by omega)
  have L4 := Lib.hid (show (d ++ lb.map comeC).length + la.length ≤ 10000 from by rw [List.length_append, List.length_map]; omega)
  have HCMP := Lib.hid (fun (w' : World) (u v : Value) (hu : RdU w' u (pti (preL la))) (hv : RdU w' v (pti (preL lb))) => zCmp_any (preL la) (preL lb) u v w' hu hv (by rw [pA1, pB1]) (by omega) (by omega) pA2 pB2)
  obtain ⟨z, hz0⟩ : ∃ z, Zb.cmp (preL la) (preL lb) = z := ⟨_, rfl⟩
  rw [hz0] at HCMP hORD
  rw [hprA, hprB] at HCMP
  rw [hprA, hprB] at hORD
  rw [hprB] at hE
  obtain ⟨adr, hadr⟩ : ∃ a, Zb.addr (preL la) (lev lb - 1) = a := ⟨_, rfl⟩
  have hADR := fun (w' : World) (u : Value) (hu : RdU w' u (pti (preL la))) => zAddr_any (preL la) (lev lb - 1) u w' hu (by rw [pA1]; omega) (by rw [pA1]; omega) pA2 (by obtain ⟨s, n, pre, ks, h1, h2, h3, h4, h5, h6, h7⟩ := lev_pos_node hb (by omega); have := h4.n64; omega)
  rw [hadr] at hADR
  rw [show ((lev lb - 1 : Nat) : Int) = lvB from by omega] at hADR
  have HADR := Lib.hid hADR
  rw [hprA] at HADR
  clear hADR
  have HG0 := Lib.hid (show ¬ lvA = lvB ∧ (lvA == lvB) = false from ⟨by omega, by simp; omega⟩)
  have HG1 := Lib.hid (show ¬ lvA > lvB ∧ decide (lvA > lvB) = false from ⟨by omega, by simp; omega⟩)
  have HCM := Lib.hid (show lvB > lvA ∧ decide (lvB > lvA) = true from ⟨by omega, by simp; omega⟩)
  obtain ⟨cv, hcv⟩ : ∃ cv, cov lb prA = cv := ⟨_, rfl⟩
  have hbes := fun (h : cv = true) (w' : World) (sb ab bx : Nat) (hs : BoS W w B sb ab bx ba bb d w') (hn : sb ≠ B ∧ ab ≠ B ∧ bx ≠ B) => bes_come W w w' B k ba bb sb ab bx la lb d hW k1 k16 ha hb hlv (by rw [hprA, hcv, h]) hs hn hN ih
  rw [hadr] at hbes
  rw [hcv] at HCB hORD
  have HBES := Lib.hid hbes
  have HOR := Lib.hid (fun (h : cv = false) => hORD (Or.inr ⟨Nat.le_of_lt hlv, h⟩))
  clear hadr
  clear hlv ha hb hne hi hN hW k1 k16 hhA hhB pA1 pA2 pA3 pB1 pB2 pB3 cA1 cA2 cB1 cB2 hLA hLB hlA hlB hprA hprB hbx hE hORD ih hz0 hcv hbes
  go_enter Tryz.func150, Tryz.ntmps150
  go_wp2_with fail
  have hBl := Exists.choose_spec (InvT.blkB HI.out)
  have HBS := Lib.hid (lt_of_block hBl)
  have hs0 : (((w.alloc (.cells #[.func (.func 149) #[] #[.pointer (some ⟨B, 0, none⟩)]] 236)).alloc (.cells #[.pointer (some ⟨ba, 0, none⟩)] 113)).alloc (.cells #[.pointer (some ⟨bb, 0, none⟩)] 113)).heap[w.heap.size]? = some (.cells #[.func (.func 149) #[] #[.pointer (some ⟨B, 0, none⟩)]] 236 (0, 0)) := (((by repeat (first | exact Below.refl _ _ | (refine Below.drew ?_) | (refine below_drewN' ?_ _) | (refine below_alloc' ?_ _) | (refine Below.setCell ?_ (by first | exact Nat.le_refl _ | (simp; done) | (simp; omega)) _))) : Below (w.alloc (.cells #[.func (.func 149) #[] #[.pointer (some ⟨B, 0, none⟩)]] 236)).heap.size (w.alloc (.cells #[.func (.func 149) #[] #[.pointer (some ⟨B, 0, none⟩)]] 236)) _).block _ (by simp)).trans (alloc_blk _ _)
  have ha0 : (((w.alloc (.cells #[.func (.func 149) #[] #[.pointer (some ⟨B, 0, none⟩)]] 236)).alloc (.cells #[.pointer (some ⟨ba, 0, none⟩)] 113)).alloc (.cells #[.pointer (some ⟨bb, 0, none⟩)] 113)).heap[w.heap.size + 1]? = some (.cells #[.pointer (some ⟨ba, 0, none⟩)] 113 (0, 0)) := (((by repeat (first | exact Below.refl _ _ | (refine Below.drew ?_) | (refine below_drewN' ?_ _) | (refine below_alloc' ?_ _) | (refine Below.setCell ?_ (by first | exact Nat.le_refl _ | (simp; done) | (simp; omega)) _))) : Below ((w.alloc (.cells #[.func (.func 149) #[] #[.pointer (some ⟨B, 0, none⟩)]] 236)).alloc (.cells #[.pointer (some ⟨ba, 0, none⟩)] 113)).heap.size ((w.alloc (.cells #[.func (.func 149) #[] #[.pointer (some ⟨B, 0, none⟩)]] 236)).alloc (.cells #[.pointer (some ⟨ba, 0, none⟩)] 113)) _).block _ (by simp)).trans (by have := alloc_blk (w.alloc (.cells #[.func (.func 149) #[] #[.pointer (some ⟨B, 0, none⟩)]] 236)) (.cells #[.pointer (some ⟨ba, 0, none⟩)] 113); simpa using this)
  have hb0 : (((w.alloc (.cells #[.func (.func 149) #[] #[.pointer (some ⟨B, 0, none⟩)]] 236)).alloc (.cells #[.pointer (some ⟨ba, 0, none⟩)] 113)).alloc (.cells #[.pointer (some ⟨bb, 0, none⟩)] 113)).heap[w.heap.size + 1 + 1]? = some (.cells #[.pointer (some ⟨bb, 0, none⟩)] 113 (0, 0)) := by have := alloc_blk ((w.alloc (.cells #[.func (.func 149) #[] #[.pointer (some ⟨B, 0, none⟩)]] 236)).alloc (.cells #[.pointer (some ⟨ba, 0, none⟩)] 113)) (.cells #[.pointer (some ⟨bb, 0, none⟩)] 113); simpa using this
  have HBW0 := Lib.hid (HI.out.bel.trans (HBX.out.mono HI.out.bel.size))
  have HIX := Lib.hid (HI.out.step HBX.out)
  have HKX := Lib.hid (Kp.of (B := B) HBX.out)
  obtain ⟨sb, hsb⟩ : ∃ sb, w.heap.size = sb := ⟨_, rfl⟩
  obtain ⟨ab, hab⟩ : ∃ ab, w.heap.size + 1 = ab := ⟨_, rfl⟩
  obtain ⟨bx, hbxx⟩ : ∃ bx, w.heap.size + 1 + 1 = bx := ⟨_, rfl⟩
  have HNB := Lib.hid (show sb ≠ B ∧ ab ≠ B ∧ bx ≠ B from by have := HBS.out; omega)
  rw [hsb] at hs0
  rw [hab] at ha0
  rw [hbxx] at hb0
  rw [hbxx, hab, hsb]
  clear hsb hab hbxx he HBX hBl
  generalize ((w.alloc (.cells #[.func (.func 149) #[] #[.pointer (some ⟨B, 0, none⟩)]] 236)).alloc (.cells #[.pointer (some ⟨ba, 0, none⟩)] 113)).alloc (.cells #[.pointer (some ⟨bb, 0, none⟩)] 113) = wx at *
  have HS := Lib.hid (show BoS W w B sb ab bx ba bb d wx from ⟨HBW0.out, HIX.out, HKX.out, hs0, ha0, hb0⟩)
  clear hs0 ha0 hb0 HBW0 HIX HKX HBS
  have HN3 := HNB
  clear HNB
  have hg := HG0.out.1
  have hgb := HG0.out.2
  have HBW := Lib.hid HS.out.bel
  have kA := cell_of_one HS.out.ha
  have kB := cell_of_one HS.out.hb
  have kS := cell_of_one HS.out.hs
  have lA := lt_of_block HS.out.ha
  have lB := lt_of_block HS.out.hb
  have lS := lt_of_block HS.out.hs
  go_wp2_with fail
  go_quiet ((go_at_call 121; first | with_reducible exact Calls.quiet_of_same (HLA.out _ (below_drewN' HBW.out _)) | with_reducible exact Calls.quiet_of_same (HLB.out _ (below_drewN' HBW.out _))))
  go_wp2_with fail
  refine stayC ?_
  intro wq hwq
  have HS2 := Lib.hid (HS.out.step (show Below _ _ wq from by rw [hwq]; exact (by repeat (first | exact Below.refl _ _ | (refine below_drewN' ?_ _)))))
  clear hwq HS HBW kA kB kS lA lB lS
  have HS := Lib.hid HS2.out
  clear HS2
  clear hg hgb HG0
  go_wp2_with fail
  have hg := HG1.out.1
  have hgb := HG1.out.2
  have HBW := Lib.hid HS.out.bel
  have kA := cell_of_one HS.out.ha
  have kB := cell_of_one HS.out.hb
  have kS := cell_of_one HS.out.hs
  have lA := lt_of_block HS.out.ha
  have lB := lt_of_block HS.out.hb
  have lS := lt_of_block HS.out.hs
  go_quiet ((go_at_call 121; first | with_reducible exact Calls.quiet_of_same (HLA.out _ (below_drewN' HBW.out _)) | with_reducible exact Calls.quiet_of_same (HLB.out _ (below_drewN' HBW.out _))))
  go_wp2_with fail
  refine stayC ?_
  intro wq hwq
  have HS2 := Lib.hid (HS.out.step (show Below _ _ wq from by rw [hwq]; exact (by repeat (first | exact Below.refl _ _ | (refine below_drewN' ?_ _)))))
  clear hwq HS HBW kA kB kS lA lB lS
  have HS := Lib.hid HS2.out
  clear HS2
  clear hg hgb HG1
  go_wp2_with fail
  have hcmp := HCM.out.1
  have hcmpb := HCM.out.2
  have HBW := Lib.hid HS.out.bel
  have kA := cell_of_one HS.out.ha
  have kB := cell_of_one HS.out.hb
  have kS := cell_of_one HS.out.hs
  have lA := lt_of_block HS.out.ha
  have lB := lt_of_block HS.out.hb
  have lS := lt_of_block HS.out.hs
  refine wp_region_vals 10 [fun z9 _ => z9 = .pointer (some ⟨bb, 0, none⟩),
    fun z9 _ => z9 = .int .i64 lvB,
    fun z9 _ => z9 = .pointer (some ⟨ba, 0, none⟩),
    fun z9 _ => z9 = .int .i64 lvA,
    fun z9 _ => z9 = .bool true,
    fun z9 _ => z9 = .bool true,
    fun z9 _ => z9 = .pointer (some ⟨bb, 0, none⟩),
    fun z9 _ => z9 = .pointer (some ⟨ba, 0, none⟩),
    fun v9 w9 => PtNew w9 v9 prA,
    fun z9 _ => z9 = .bool cv]
    (by kernel_rfl) (by kernel_rfl) (by kernel_rfl) (by kernel_rfl) ?_ ?_ ?_
  · intro V hV v w1 w2 h hb
    simp only [List.mem_cons, List.not_mem_nil, or_false] at hV
    rcases hV with rfl | rfl | rfl | rfl | rfl | rfl | rfl | rfl | rfl | rfl
    all_goals first | exact h | (exact PtNew.below h hb)
  · intro iq oq hiq hoq
    match iq, hiq with
    | 0, _ =>
    obtain rfl := Option.some.inj hoq
    intro a1 w1 K hk hK
    have e5 : a1.tmps.getD 5 undef = .pointer (some ⟨bx, 0, none⟩) := hk.same 5 (by simp)
    have c0 : w1.cell? ⟨ab, 0, none⟩ = some (.pointer (some ⟨ba, 0, none⟩)) := Below.keeps hk.ext _ _ (by simp [go_sem, kA, kB, hcmp, hcmpb])
    have c1 : w1.cell? ⟨bx, 0, none⟩ = some (.pointer (some ⟨bb, 0, none⟩)) := Below.keeps hk.ext _ _ (by simp [go_sem, kA, kB, hcmp, hcmpb])
    simp [Region.wanted, Oper.wp, Act.eval, go_sem, e5, c0, c1, kA, kB, hcmp, hcmpb]
    exact hK _ _ (Below.refl _ _) rfl
    | 1, _ =>
    obtain rfl := Option.some.inj hoq
    intro a1 w1 K hk hK
    have d92 : a1.tmps.getD 92 undef = .pointer (some ⟨bb, 0, none⟩) := hk.deps ⟨0, .data⟩ (by simp) rfl _ _ rfl rfl
    simp [Region.wanted, Oper.wp, Act.eval, go_sem, d92, kA, kB, hcmp, hcmpb]
    refine (HLB.out _ (HBW.out.trans ((below_trans (by repeat (first | exact Below.refl _ _ | (refine Below.drew ?_) | (refine below_drewN' ?_ _) | (refine below_alloc' ?_ _) | (refine Below.setCell ?_ (by first | exact Nat.le_refl _ | (simp; done) | (simp; omega)) _))) hk.ext).mono HBW.out.size))).mono ?_
    rintro e w9 ⟨rfl, hw9⟩
    exact hK _ _ (by rw [hw9]; exact Below.refl _ _) rfl
    | 2, _ =>
    obtain rfl := Option.some.inj hoq
    intro a1 w1 K hk hK
    have e4 : a1.tmps.getD 4 undef = .pointer (some ⟨ab, 0, none⟩) := hk.same 4 (by simp)
    have c0 : w1.cell? ⟨ab, 0, none⟩ = some (.pointer (some ⟨ba, 0, none⟩)) := Below.keeps hk.ext _ _ (by simp [go_sem, kA, kB, hcmp, hcmpb])
    have c1 : w1.cell? ⟨bx, 0, none⟩ = some (.pointer (some ⟨bb, 0, none⟩)) := Below.keeps hk.ext _ _ (by simp [go_sem, kA, kB, hcmp, hcmpb])
    simp [Region.wanted, Oper.wp, Act.eval, go_sem, e4, c0, c1, kA, kB, hcmp, hcmpb]
    exact hK _ _ (Below.refl _ _) rfl
    | 3, _ =>
    obtain rfl := Option.some.inj hoq
    intro a1 w1 K hk hK
    have d94 : a1.tmps.getD 94 undef = .pointer (some ⟨ba, 0, none⟩) := hk.deps ⟨2, .data⟩ (by simp) rfl _ _ rfl rfl
    simp [Region.wanted, Oper.wp, Act.eval, go_sem, d94, kA, kB, hcmp, hcmpb]
    refine (HLA.out _ (HBW.out.trans ((below_trans (by repeat (first | exact Below.refl _ _ | (refine Below.drew ?_) | (refine below_drewN' ?_ _) | (refine below_alloc' ?_ _) | (refine Below.setCell ?_ (by first | exact Nat.le_refl _ | (simp; done) | (simp; omega)) _))) hk.ext).mono HBW.out.size))).mono ?_
    rintro e w9 ⟨rfl, hw9⟩
    exact hK _ _ (by rw [hw9]; exact Below.refl _ _) rfl
    | 4, _ =>
    obtain rfl := Option.some.inj hoq
    intro a1 w1 K hk hK
    have d93 : a1.tmps.getD 93 undef = .int .i64 lvB := hk.deps ⟨1, .data⟩ (by simp) rfl _ _ rfl rfl
    have d95 : a1.tmps.getD 95 undef = .int .i64 lvA := hk.deps ⟨3, .data⟩ (by simp) rfl _ _ rfl rfl
    simp [Region.wanted, Oper.wp, Act.eval, go_sem, d93, d95, kA, kB, hcmp, hcmpb]
    exact hK _ _ (Below.refl _ _) rfl
    | 5, _ =>
    obtain rfl := Option.some.inj hoq
    intro a1 w1 K hk hK
    have d96 : a1.tmps.getD 96 undef = .bool true := hk.deps ⟨4, .data⟩ (by simp) rfl _ _ rfl rfl
    simp [Region.wanted, Oper.wp, Act.eval, go_sem, d96, kA, kB, hcmp, hcmpb]
    exact hK _ _ (Below.refl _ _) rfl
    | 6, _ =>
    obtain rfl := Option.some.inj hoq
    intro a1 w1 K hk hK
    have e5 : a1.tmps.getD 5 undef = .pointer (some ⟨bx, 0, none⟩) := hk.same 5 (by simp)
    have gd : a1.tmps[97]? = some (.bool true) := getD_bool (hk.deps ⟨5, .guard⟩ (by simp) rfl _ _ rfl rfl)
    have c0 : w1.cell? ⟨ab, 0, none⟩ = some (.pointer (some ⟨ba, 0, none⟩)) := Below.keeps hk.ext _ _ (by simp [go_sem, kA, kB, hcmp, hcmpb])
    have c1 : w1.cell? ⟨bx, 0, none⟩ = some (.pointer (some ⟨bb, 0, none⟩)) := Below.keeps hk.ext _ _ (by simp [go_sem, kA, kB, hcmp, hcmpb])
    simp [Region.wanted, Oper.wp, Act.eval, go_sem, e5, gd, yielded, c0, c1, kA, kB, hcmp, hcmpb]
    exact hK _ _ (Below.refl _ _) rfl
    | 7, _ =>
    obtain rfl := Option.some.inj hoq
    intro a1 w1 K hk hK
    have e4 : a1.tmps.getD 4 undef = .pointer (some ⟨ab, 0, none⟩) := hk.same 4 (by simp)
    have gd : a1.tmps[97]? = some (.bool true) := getD_bool (hk.deps ⟨5, .guard⟩ (by simp) rfl _ _ rfl rfl)
    have c0 : w1.cell? ⟨ab, 0, none⟩ = some (.pointer (some ⟨ba, 0, none⟩)) := Below.keeps hk.ext _ _ (by simp [go_sem, kA, kB, hcmp, hcmpb])
    have c1 : w1.cell? ⟨bx, 0, none⟩ = some (.pointer (some ⟨bb, 0, none⟩)) := Below.keeps hk.ext _ _ (by simp [go_sem, kA, kB, hcmp, hcmpb])
    simp [Region.wanted, Oper.wp, Act.eval, go_sem, e4, gd, yielded, c0, c1, kA, kB, hcmp, hcmpb]
    exact hK _ _ (Below.refl _ _) rfl
    | 8, _ =>
    obtain rfl := Option.some.inj hoq
    intro a1 w1 K hk hK
    have d99 : a1.tmps.getD 99 undef = .pointer (some ⟨ba, 0, none⟩) := hk.deps ⟨7, .data⟩ (by simp) rfl _ _ rfl rfl
    have gd : a1.tmps[97]? = some (.bool true) := getD_bool (hk.deps ⟨5, .guard⟩ (by simp) rfl _ _ rfl rfl)
    simp [Region.wanted, Oper.wp, Act.eval, go_sem, d99, gd, yielded, kA, kB, hcmp, hcmpb]
    refine (HPA.out _ (HBW.out.trans ((below_trans (by repeat (first | exact Below.refl _ _ | (refine Below.drew ?_) | (refine below_drewN' ?_ _) | (refine below_alloc' ?_ _) | (refine Below.setCell ?_ (by first | exact Nat.le_refl _ | (simp; done) | (simp; omega)) _))) hk.ext).mono HBW.out.size))).mono ?_
    rintro e w9 ⟨u9, rfl, h9, hb9⟩
    exact hK _ _ hb9 h9
    | 9, _ =>
    obtain rfl := Option.some.inj hoq
    intro a1 w1 K hk hK
    have d98 : a1.tmps.getD 98 undef = .pointer (some ⟨bb, 0, none⟩) := hk.deps ⟨6, .data⟩ (by simp) rfl _ _ rfl rfl
    have D100 : PtNew w1 (a1.tmps.getD 100 undef) prA := hk.deps ⟨8, .data⟩ (by simp) rfl _ _ rfl rfl
    have gd : a1.tmps[97]? = some (.bool true) := getD_bool (hk.deps ⟨5, .guard⟩ (by simp) rfl _ _ rfl rfl)
    obtain ⟨A9, c9, eP, _⟩ := RdU.point D100.rd
    have ePx : a1.tmps[100]?.getD undef = .slice A9 prA.length c9 := by rw [← eP]; simp
    rw [eP] at D100
    simp [Region.wanted, Oper.wp, Act.eval, go_sem, d98, eP, ePx, gd, yielded, kA, kB]
    refine (HCB.out _ _ (HBW.out.trans ((below_trans (by repeat (first | exact Below.refl _ _ | (refine Below.drew ?_) | (refine below_drewN' ?_ _) | (refine below_alloc' ?_ _) | (refine Below.setCell ?_ (by first | exact Nat.le_refl _ | (simp; done) | (simp; omega)) _))) hk.ext).mono HBW.out.size)) D100.rd).mono ?_
    rintro e w9 ⟨rfl, hw9⟩
    exact hK _ _ (by rw [hw9]; exact Below.refl _ _) rfl
  · intro vs w3 hl hb3 hv
    match vs, hl with
    | [v0, v1, v2, v3, v4, v5, v6, v7, v8, v9], _ =>
    obtain rfl : v0 = .pointer (some ⟨bb, 0, none⟩) := hv 0 (by omega)
    obtain rfl : v1 = .int .i64 lvB := hv 1 (by omega)
    obtain rfl : v2 = .pointer (some ⟨ba, 0, none⟩) := hv 2 (by omega)
    obtain rfl : v3 = .int .i64 lvA := hv 3 (by omega)
    obtain rfl : v4 = .bool true := hv 4 (by omega)
    obtain rfl : v5 = .bool true := hv 5 (by omega)
    obtain rfl : v6 = .pointer (some ⟨bb, 0, none⟩) := hv 6 (by omega)
    obtain rfl : v7 = .pointer (some ⟨ba, 0, none⟩) := hv 7 (by omega)
    have q8 : PtNew w3 v8 prA := hv 8 (by omega)
    obtain rfl : v9 = .bool cv := hv 9 (by omega)
    clear hv
    simp only [putAll, List.take_succ_cons, List.take_zero, List.drop_succ_cons, List.drop_zero, Act.put, List.setIfInBounds_toArray, List.set_cons_succ, List.set_cons_zero]
    have HS2 := Lib.hid (HS.out.step hb3)
    clear hb3 HS HBW kA kB kS lA lB lS
    have HS := Lib.hid HS2.out
    clear HS2
    clear q8
    clear hcmp hcmpb HCM
    cases cv with
    | true =>
      go_wp2_with fail
      have HBW := Lib.hid HS.out.bel
      have kA := cell_of_one HS.out.ha
      have kB := cell_of_one HS.out.hb
      have kS := cell_of_one HS.out.hs
      have lA := lt_of_block HS.out.ha
      have lB := lt_of_block HS.out.hb
      have lS := lt_of_block HS.out.hs
      refine wp_region_vals 9 [fun z9 _ => z9 = .pointer (some ⟨ba, 0, none⟩),
        fun v9 w9 => PtNew w9 v9 prA,
        fun z9 _ => z9 = .pointer (some ⟨bb, 0, none⟩),
        fun z9 _ => z9 = .int .i64 lvB,
        fun z9 _ => z9 = .tuple #[.int .i64 (adr : Nat), .int .i64 0],
        fun z9 _ => z9 = .tuple #[.int .i64 (adr : Nat), .int .i64 0],
        fun z9 _ => z9 = .int .i64 (adr : Nat),
        fun z9 _ => z9 = .int .i64 0,
        fun z9 _ => z9 = .int .i64 (adr : Nat)]
        (by kernel_rfl) (by kernel_rfl) (by kernel_rfl) (by kernel_rfl) ?_ ?_ ?_
      · intro V hV v w1 w2 h hb
        simp only [List.mem_cons, List.not_mem_nil, or_false] at hV
        rcases hV with rfl | rfl | rfl | rfl | rfl | rfl | rfl | rfl | rfl
        all_goals first | exact h | (exact PtNew.below h hb)
      · intro iq oq hiq hoq
        match iq, hiq with
        | 0, _ =>
        obtain rfl := Option.some.inj hoq
        intro a1 w1 K hk hK
        have e4 : a1.tmps.getD 4 undef = .pointer (some ⟨ab, 0, none⟩) := hk.same 4 (by simp)
        have c0 : w1.cell? ⟨ab, 0, none⟩ = some (.pointer (some ⟨ba, 0, none⟩)) := Below.keeps hk.ext _ _ (by simp [go_sem, kA, kB])
        have c1 : w1.cell? ⟨bx, 0, none⟩ = some (.pointer (some ⟨bb, 0, none⟩)) := Below.keeps hk.ext _ _ (by simp [go_sem, kA, kB])
        simp [Region.wanted, Oper.wp, Act.eval, go_sem, e4, c0, c1, kA, kB]
        exact hK _ _ (Below.refl _ _) rfl
        | 1, _ =>
        obtain rfl := Option.some.inj hoq
        intro a1 w1 K hk hK
        have d104 : a1.tmps.getD 104 undef = .pointer (some ⟨ba, 0, none⟩) := hk.deps ⟨0, .data⟩ (by simp) rfl _ _ rfl rfl
        simp [Region.wanted, Oper.wp, Act.eval, go_sem, d104, kA, kB]
        refine (HPA.out _ (HBW.out.trans ((below_trans (by repeat (first | exact Below.refl _ _ | (refine Below.drew ?_) | (refine below_drewN' ?_ _) | (refine below_alloc' ?_ _) | (refine Below.setCell ?_ (by first | exact Nat.le_refl _ | (simp; done) | (simp; omega)) _))) hk.ext).mono HBW.out.size))).mono ?_
        rintro e w9 ⟨u9, rfl, h9, hb9⟩
        exact hK _ _ hb9 h9
        | 2, _ =>
        obtain rfl := Option.some.inj hoq
        intro a1 w1 K hk hK
        have e5 : a1.tmps.getD 5 undef = .pointer (some ⟨bx, 0, none⟩) := hk.same 5 (by simp)
        have c0 : w1.cell? ⟨ab, 0, none⟩ = some (.pointer (some ⟨ba, 0, none⟩)) := Below.keeps hk.ext _ _ (by simp [go_sem, kA, kB])
        have c1 : w1.cell? ⟨bx, 0, none⟩ = some (.pointer (some ⟨bb, 0, none⟩)) := Below.keeps hk.ext _ _ (by simp [go_sem, kA, kB])
        simp [Region.wanted, Oper.wp, Act.eval, go_sem, e5, c0, c1, kA, kB]
        exact hK _ _ (Below.refl _ _) rfl
        | 3, _ =>
        obtain rfl := Option.some.inj hoq
        intro a1 w1 K hk hK
        have d106 : a1.tmps.getD 106 undef = .pointer (some ⟨bb, 0, none⟩) := hk.deps ⟨2, .data⟩ (by simp) rfl _ _ rfl rfl
        simp [Region.wanted, Oper.wp, Act.eval, go_sem, d106, kA, kB]
        refine (HLB.out _ (HBW.out.trans ((below_trans (by repeat (first | exact Below.refl _ _ | (refine Below.drew ?_) | (refine below_drewN' ?_ _) | (refine below_alloc' ?_ _) | (refine Below.setCell ?_ (by first | exact Nat.le_refl _ | (simp; done) | (simp; omega)) _))) hk.ext).mono HBW.out.size))).mono ?_
        rintro e w9 ⟨rfl, hw9⟩
        exact hK _ _ (by rw [hw9]; exact Below.refl _ _) rfl
        | 4, _ =>
        obtain rfl := Option.some.inj hoq
        intro a1 w1 K hk hK
        have D105 : PtNew w1 (a1.tmps.getD 105 undef) prA := hk.deps ⟨1, .data⟩ (by simp) rfl _ _ rfl rfl
        have d107 : a1.tmps.getD 107 undef = .int .i64 lvB := hk.deps ⟨3, .data⟩ (by simp) rfl _ _ rfl rfl
        obtain ⟨AP, cP, eP, _⟩ := RdU.point D105.rd
        have ePx : a1.tmps[105]?.getD undef = .slice AP prA.length cP := by rw [← eP]; simp
        rw [eP] at D105
        simp [Region.wanted, Oper.wp, Act.eval, go_sem, d107, eP, ePx, kA, kB]
        refine (HADR.out _ _ D105.rd).mono ?_
        rintro e w9 ⟨rfl, hw9⟩
        exact hK _ _ (by rw [hw9]; exact Below.refl _ _) rfl
        | 5, _ =>
        obtain rfl := Option.some.inj hoq
        intro a1 w1 K hk hK
        have d108 : a1.tmps.getD 108 undef = .tuple #[.int .i64 (adr : Nat), .int .i64 0] := hk.deps ⟨4, .data⟩ (by simp) rfl _ _ rfl rfl
        simp [Region.wanted, Oper.wp, Act.eval, go_sem, d108, kA, kB]
        exact hK _ _ (Below.refl _ _) rfl
        | 6, _ =>
        obtain rfl := Option.some.inj hoq
        intro a1 w1 K hk hK
        have d103 : a1.tmps.getD 103 undef = .tuple #[.int .i64 (adr : Nat), .int .i64 0] := hk.deps ⟨5, .data⟩ (by simp) rfl _ _ rfl rfl
        simp [Region.wanted, Oper.wp, Act.eval, go_sem, d103, kA, kB]
        exact hK _ _ (Below.refl _ _) rfl
        | 7, _ =>
        obtain rfl := Option.some.inj hoq
        intro a1 w1 K hk hK
        have d103 : a1.tmps.getD 103 undef = .tuple #[.int .i64 (adr : Nat), .int .i64 0] := hk.deps ⟨5, .data⟩ (by simp) rfl _ _ rfl rfl
        simp [Region.wanted, Oper.wp, Act.eval, go_sem, d103, kA, kB]
        exact hK _ _ (Below.refl _ _) rfl
        | 8, _ =>
        obtain rfl := Option.some.inj hoq
        intro a1 w1 K hk hK
        have d109 : a1.tmps.getD 109 undef = .int .i64 (adr : Nat) := hk.deps ⟨6, .data⟩ (by simp) rfl _ _ rfl rfl
        simp [Region.wanted, Oper.wp, Act.eval, go_sem, d109, kA, kB]
        exact hK _ _ (Below.refl _ _) rfl
      · intro vs w3 hl hb3 hv
        match vs, hl with
        | [v0, v1, v2, v3, v4, v5, v6, v7, v8], _ =>
        obtain rfl : v0 = .pointer (some ⟨ba, 0, none⟩) := hv 0 (by omega)
        have q1 : PtNew w3 v1 prA := hv 1 (by omega)
        obtain rfl : v2 = .pointer (some ⟨bb, 0, none⟩) := hv 2 (by omega)
        obtain rfl : v3 = .int .i64 lvB := hv 3 (by omega)
        obtain rfl : v4 = .tuple #[.int .i64 (adr : Nat), .int .i64 0] := hv 4 (by omega)
        obtain rfl : v5 = .tuple #[.int .i64 (adr : Nat), .int .i64 0] := hv 5 (by omega)
        obtain rfl : v6 = .int .i64 (adr : Nat) := hv 6 (by omega)
        obtain rfl : v7 = .int .i64 0 := hv 7 (by omega)
        obtain rfl : v8 = .int .i64 (adr : Nat) := hv 8 (by omega)
        clear hv
        simp only [putAll, List.take_succ_cons, List.take_zero, List.drop_succ_cons, List.drop_zero, Act.put, List.setIfInBounds_toArray, List.set_cons_succ, List.set_cons_zero]
        have HS2 := Lib.hid (HS.out.step hb3)
        clear hb3 HS HBW kA kB kS lA lB lS
        have HS := Lib.hid HS2.out
        clear HS2
        clear q1
        have HBW := Lib.hid HS.out.bel
        have kA := cell_of_one HS.out.ha
        have kB := cell_of_one HS.out.hb
        have kS := cell_of_one HS.out.hs
        have lA := lt_of_block HS.out.ha
        have lB := lt_of_block HS.out.hb
        have lS := lt_of_block HS.out.hs
        have HBS := Lib.hid (HBES.out (by first | trivial | rfl) _ _ _ _ HS.out HN3.out)
        go_wp2_with fail
        refine HBS.out.mono ?_
        rintro e w7 ⟨rfl, hi7, hk7⟩
        have HF := Lib.hid (And.intro hi7 (HS.out.kp.trans hk7))
        clear hi7 hk7
        go_wp2_with fail
        go_end0
        exact ⟨rfl, HF.out⟩
    | false =>
      have HORD := Lib.hid (HOR.out rfl)
      clear HOR
      go_wp2_with fail
      have HBW := Lib.hid HS.out.bel
      have kA := cell_of_one HS.out.ha
      have kB := cell_of_one HS.out.hb
      have kS := cell_of_one HS.out.hs
      have lA := lt_of_block HS.out.ha
      have lB := lt_of_block HS.out.hb
      have lS := lt_of_block HS.out.hs
      refine wp_region_vals 9 [fun z9 _ => z9 = .pointer (some ⟨ba, 0, none⟩),
        fun v9 w9 => PtNew w9 v9 prA,
        fun z9 _ => z9 = .pointer (some ⟨bb, 0, none⟩),
        fun v9 w9 => PtNew w9 v9 prB,
        fun z9 _ => z9 = .tuple #[.int .i64 z, .int .i64 0],
        fun z9 _ => z9 = .tuple #[.int .i64 z, .int .i64 0],
        fun z9 _ => z9 = .int .i64 z,
        fun z9 _ => z9 = .int .i64 0,
        fun z9 _ => z9 = .int .i64 z]
        (by kernel_rfl) (by kernel_rfl) (by kernel_rfl) (by kernel_rfl) ?_ ?_ ?_
      · intro V hV v w1 w2 h hb
        simp only [List.mem_cons, List.not_mem_nil, or_false] at hV
        rcases hV with rfl | rfl | rfl | rfl | rfl | rfl | rfl | rfl | rfl
        all_goals first | exact h | (exact PtNew.below h hb)
      · intro iq oq hiq hoq
        match iq, hiq with
        | 0, _ =>
        obtain rfl := Option.some.inj hoq
        intro a1 w1 K hk hK
        have e4 : a1.tmps.getD 4 undef = .pointer (some ⟨ab, 0, none⟩) := hk.same 4 (by simp)
        have c0 : w1.cell? ⟨ab, 0, none⟩ = some (.pointer (some ⟨ba, 0, none⟩)) := Below.keeps hk.ext _ _ (by simp [go_sem, kA, kB])
        have c1 : w1.cell? ⟨bx, 0, none⟩ = some (.pointer (some ⟨bb, 0, none⟩)) := Below.keeps hk.ext _ _ (by simp [go_sem, kA, kB])
        simp [Region.wanted, Oper.wp, Act.eval, go_sem, e4, c0, c1, kA, kB]
        exact hK _ _ (Below.refl _ _) rfl
        | 1, _ =>
        obtain rfl := Option.some.inj hoq
        intro a1 w1 K hk hK
        have d13 : a1.tmps.getD 13 undef = .pointer (some ⟨ba, 0, none⟩) := hk.deps ⟨0, .data⟩ (by simp) rfl _ _ rfl rfl
        simp [Region.wanted, Oper.wp, Act.eval, go_sem, d13, kA, kB]
        refine (HPA.out _ (HBW.out.trans ((below_trans (by repeat (first | exact Below.refl _ _ | (refine Below.drew ?_) | (refine below_drewN' ?_ _) | (refine below_alloc' ?_ _) | (refine Below.setCell ?_ (by first | exact Nat.le_refl _ | (simp; done) | (simp; omega)) _))) hk.ext).mono HBW.out.size))).mono ?_
        rintro e w9 ⟨u9, rfl, h9, hb9⟩
        exact hK _ _ hb9 h9
        | 2, _ =>
        obtain rfl := Option.some.inj hoq
        intro a1 w1 K hk hK
        have e5 : a1.tmps.getD 5 undef = .pointer (some ⟨bx, 0, none⟩) := hk.same 5 (by simp)
        have c0 : w1.cell? ⟨ab, 0, none⟩ = some (.pointer (some ⟨ba, 0, none⟩)) := Below.keeps hk.ext _ _ (by simp [go_sem, kA, kB])
        have c1 : w1.cell? ⟨bx, 0, none⟩ = some (.pointer (some ⟨bb, 0, none⟩)) := Below.keeps hk.ext _ _ (by simp [go_sem, kA, kB])
        simp [Region.wanted, Oper.wp, Act.eval, go_sem, e5, c0, c1, kA, kB]
        exact hK _ _ (Below.refl _ _) rfl
        | 3, _ =>
        obtain rfl := Option.some.inj hoq
        intro a1 w1 K hk hK
        have d15 : a1.tmps.getD 15 undef = .pointer (some ⟨bb, 0, none⟩) := hk.deps ⟨2, .data⟩ (by simp) rfl _ _ rfl rfl
        simp [Region.wanted, Oper.wp, Act.eval, go_sem, d15, kA, kB]
        refine (HPB.out _ (HBW.out.trans ((below_trans (by repeat (first | exact Below.refl _ _ | (refine Below.drew ?_) | (refine below_drewN' ?_ _) | (refine below_alloc' ?_ _) | (refine Below.setCell ?_ (by first | exact Nat.le_refl _ | (simp; done) | (simp; omega)) _))) hk.ext).mono HBW.out.size))).mono ?_
        rintro e w9 ⟨u9, rfl, h9, hb9⟩
        exact hK _ _ hb9 h9
        | 4, _ =>
        obtain rfl := Option.some.inj hoq
        intro a1 w1 K hk hK
        have D14 : PtNew w1 (a1.tmps.getD 14 undef) prA := hk.deps ⟨1, .data⟩ (by simp) rfl _ _ rfl rfl
        have D16 : PtNew w1 (a1.tmps.getD 16 undef) prB := hk.deps ⟨3, .data⟩ (by simp) rfl _ _ rfl rfl
        obtain ⟨AP, cP, eP, _⟩ := RdU.point D14.rd
        have ePx : a1.tmps[14]?.getD undef = .slice AP prA.length cP := by rw [← eP]; simp
        rw [eP] at D14
        obtain ⟨AQ, cQ, eQ, _⟩ := RdU.point D16.rd
        have eQx : a1.tmps[16]?.getD undef = .slice AQ prB.length cQ := by rw [← eQ]; simp
        rw [eQ] at D16
        simp [Region.wanted, Oper.wp, Act.eval, go_sem, eP, ePx, eQ, eQx, kA, kB]
        refine (HCMP.out _ _ _ D14.rd D16.rd).mono ?_
        rintro e w9 ⟨rfl, hw9⟩
        exact hK _ _ (by rw [hw9]; exact Below.refl _ _) rfl
        | 5, _ =>
        obtain rfl := Option.some.inj hoq
        intro a1 w1 K hk hK
        have d17 : a1.tmps.getD 17 undef = .tuple #[.int .i64 z, .int .i64 0] := hk.deps ⟨4, .data⟩ (by simp) rfl _ _ rfl rfl
        simp [Region.wanted, Oper.wp, Act.eval, go_sem, d17, kA, kB]
        exact hK _ _ (Below.refl _ _) rfl
        | 6, _ =>
        obtain rfl := Option.some.inj hoq
        intro a1 w1 K hk hK
        have d12 : a1.tmps.getD 12 undef = .tuple #[.int .i64 z, .int .i64 0] := hk.deps ⟨5, .data⟩ (by simp) rfl _ _ rfl rfl
        simp [Region.wanted, Oper.wp, Act.eval, go_sem, d12, kA, kB]
        exact hK _ _ (Below.refl _ _) rfl
        | 7, _ =>
        obtain rfl := Option.some.inj hoq
        intro a1 w1 K hk hK
        have d12 : a1.tmps.getD 12 undef = .tuple #[.int .i64 z, .int .i64 0] := hk.deps ⟨5, .data⟩ (by simp) rfl _ _ rfl rfl
        simp [Region.wanted, Oper.wp, Act.eval, go_sem, d12, kA, kB]
        exact hK _ _ (Below.refl _ _) rfl
        | 8, _ =>
        obtain rfl := Option.some.inj hoq
        intro a1 w1 K hk hK
        have d18 : a1.tmps.getD 18 undef = .int .i64 z := hk.deps ⟨6, .data⟩ (by simp) rfl _ _ rfl rfl
        simp [Region.wanted, Oper.wp, Act.eval, go_sem, d18, kA, kB]
        exact hK _ _ (Below.refl _ _) rfl
      · intro vs w3 hl hb3 hv
        match vs, hl with
        | [v0, v1, v2, v3, v4, v5, v6, v7, v8], _ =>
        obtain rfl : v0 = .pointer (some ⟨ba, 0, none⟩) := hv 0 (by omega)
        have q1 : PtNew w3 v1 prA := hv 1 (by omega)
        obtain rfl : v2 = .pointer (some ⟨bb, 0, none⟩) := hv 2 (by omega)
        have q3 : PtNew w3 v3 prB := hv 3 (by omega)
        obtain rfl : v4 = .tuple #[.int .i64 z, .int .i64 0] := hv 4 (by omega)
        obtain rfl : v5 = .tuple #[.int .i64 z, .int .i64 0] := hv 5 (by omega)
        obtain rfl : v6 = .int .i64 z := hv 6 (by omega)
        obtain rfl : v7 = .int .i64 0 := hv 7 (by omega)
        obtain rfl : v8 = .int .i64 z := hv 8 (by omega)
        clear hv
        simp only [putAll, List.take_succ_cons, List.take_zero, List.drop_succ_cons, List.drop_zero, Act.put, List.setIfInBounds_toArray, List.set_cons_succ, List.set_cons_zero]
        have HS2 := Lib.hid (HS.out.step hb3)
        clear hb3 HS HBW kA kB kS lA lB lS
        have HS := Lib.hid HS2.out
        clear HS2
        clear q1 q3
        by_cases hz : z < 0
        · have HE := Lib.hid (HORD.out.1 (by omega))
          have HBW := Lib.hid HS.out.bel
          have kA := cell_of_one HS.out.ha
          have kB := cell_of_one HS.out.hb
          have kS := cell_of_one HS.out.hs
          have lA := lt_of_block HS.out.ha
          have lB := lt_of_block HS.out.hb
          have lS := lt_of_block HS.out.hs
          go_wp2_with fail
          refine (HALA.out _ _ HS.out.inv L1.out).mono ?_
          rintro e w7 ⟨rfl, hi7, hk7⟩
          have HS2 := Lib.hid (HS.out.go HN3.out hi7 hk7)
          clear hi7 hk7 HBW kA kB kS lA lB lS
          have kA := cell_of_one HS2.out.ha
          have kB := cell_of_one HS2.out.hb
          have kS := cell_of_one HS2.out.hs
          have lA := lt_of_block HS2.out.ha
          have lB := lt_of_block HS2.out.hb
          have lS := lt_of_block HS2.out.hs
          go_wp2_with fail
          refine (HALB.out _ _ HS2.out.inv L2.out).mono ?_
          rintro e w8 ⟨rfl, hi8, hk8⟩
          have HF := Lib.hid (And.intro hi8 (HS2.out.kp.trans hk8))
          clear hi8 hk8
          go_wp2_with fail
          go_end0
          rw [HE.out, ← List.append_assoc]
          exact ⟨rfl, HF.out⟩
        · have HE := Lib.hid (HORD.out.2 (by omega))
          have HBW := Lib.hid HS.out.bel
          have kA := cell_of_one HS.out.ha
          have kB := cell_of_one HS.out.hb
          have kS := cell_of_one HS.out.hs
          have lA := lt_of_block HS.out.ha
          have lB := lt_of_block HS.out.hb
          have lS := lt_of_block HS.out.hs
          go_wp2_with fail
          refine (HALB.out _ _ HS.out.inv L3.out).mono ?_
          rintro e w7 ⟨rfl, hi7, hk7⟩
          have HS2 := Lib.hid (HS.out.go HN3.out hi7 hk7)
          clear hi7 hk7 HBW kA kB kS lA lB lS
          have kA := cell_of_one HS2.out.ha
          have kB := cell_of_one HS2.out.hb
          have kS := cell_of_one HS2.out.hs
          have lA := lt_of_block HS2.out.ha
          have lB := lt_of_block HS2.out.hb
          have lS := lt_of_block HS2.out.hs
          go_wp2_with fail
          refine (HALA.out _ _ HS2.out.inv L4.out).mono ?_
          rintro e w8 ⟨rfl, hi8, hk8⟩
          have HF := Lib.hid (And.intro hi8 (HS2.out.kp.trans hk8))
          clear hi8 hk8
          go_wp2_with fail
          go_end0
          rw [HE.out, ← List.append_assoc]
          exact ⟨rfl, HF.out⟩
end Go.Proofs.YtdkomhmciihkiaaGreat
/-! DifL -/
namespace Go.Proofs.YtdkomhmciihkiaaGreat
open Go.RowKit
set_option linter.unusedVariables false
set_option linter.unusedSimpArgs false
set_option maxRecDepth 100000

theorem both_any (W : World) (B k : Nat) (hW : W.heap.size ≤ B) (k1 : 1 ≤ k) (k16 : k ≤ 16) : ∀ N, BoIH W B k N := by
  intro N
  induction N using Nat.strongRecOn with
  | ind N IH =>
    intro ra rb lx ly w' d' ha hb hlt hi hN
    cases ra with
    | none =>
      cases rb with
      | none => exact both_same W w' B k none lx ly d' ha hb hi
      | some b =>
        have e : lx = [] := ha
        subst e
        exact both_come W w' B k b ly d' hW k1 k16 hb hi (by simpa using hN)
    | some a =>
      cases rb with
      | none =>
        have e : ly = [] := hb
        subst e
        exact both_gone W w' B k a lx d' hW k1 k16 ha hi (by simpa using hN)
      | some b =>
        by_cases hab : a = b
        · subst hab
          exact both_same W w' B k (some a) lx ly d' ha hb hi
        · have ih := IH (lx.length + ly.length) hlt
          rcases Nat.lt_trichotomy (lev lx) (lev ly) with h | h | h
          · exact both_lt W w' B k a b lx ly d' hW k1 k16 ha hb hab hi hN ih h
          · exact both_eq W w' B k a b lx ly d' hW k1 k16 ha hb hab hi hN ih h
          · exact both_gt W w' B k a b lx ly d' hW k1 k16 ha hb hab hi hN ih h
end Go.Proofs.YtdkomhmciihkiaaGreat
/-! DifO -/
namespace Go.Proofs.YtdkomhmciihkiaaGreat
open Go.RowKit
set_option linter.unusedVariables false
set_option linter.unusedSimpArgs false
set_option maxRecDepth 100000

theorem dcheck_any (w : World) (a b k : Nat) (la lb : List En) (ha : TrR w a k la) (hb : TrR w b k lb) :
    Calls Tryz.prog 148 #[.pointer (some ⟨a, 0, none⟩), .pointer (some ⟨b, 0, none⟩)] w fun e w' => e = .returned (.int .i64 0) ∧ w' = w := by
  have HK1 := Lib.hid (tk_any w a k ha.c0)
  have HK2 := Lib.hid (tk_any w b k hb.c0)
  clear ha hb
  go_enter Tryz.func148, Tryz.ntmps148
  go_wp2_with fail
  refine (HK1.out).mono ?_
  rintro e w1 ⟨rfl, hw⟩
  obtain rfl := hw.symm
  clear hw
  go_wp2_with fail
  refine (HK2.out).mono ?_
  rintro e w1 ⟨rfl, hw⟩
  obtain rfl := hw.symm
  clear hw
  go_wp2_with fail
  go_ret
  exact ⟨rfl, rfl⟩
/-- what Changes hands back -/
def ChgP (W : World) (d : List Ch) (e : Ending) (w' : World) : Prop := ∃ v, e = .returned (.tuple #[v, .int .i64 0]) ∧ OwnC (PtNew w') W w' v d ∧ Below W.heap.size W w'
set_option maxHeartbeats 4000000 in
theorem changes_any (w : World) (a b k : Nat) (la lb : List En) (ha : TrR w a k la) (hb : TrR w b k lb) (hN : la.length + lb.length ≤ 10000) :
    Calls Tryz.prog 94 #[.pointer (some ⟨a, 0, none⟩), .pointer (some ⟨b, 0, none⟩)] w fun e w' => ChgP w (changesL la lb) e w' := by
  have HCK := Lib.hid (dcheck_any w a b k la lb ha hb)
  obtain ⟨ra, hra, hla⟩ := ha.c1
  obtain ⟨rb, hrb, hlb⟩ := hb.c1
  have HBO := Lib.hid (fun (w' : World) (h : InvT w w.heap.size [] w') => both_any w w.heap.size k (Nat.le_refl _) ha.k1 ha.k16 _ ra rb la lb w' [] hla hlb (Nat.lt_succ_self _) h (by simpa using hN))
  obtain ⟨q1, hq1⟩ := pv_ex ra
  obtain ⟨q2, hq2⟩ := pv_ex rb
  rw [hq1, hq2] at HBO
  rw [hq1] at hra
  rw [hq2] at hrb
  have HR1 := Lib.hid (fun (w' : World) (h : Below w.heap.size w w') => troot_any w' a q1 (Below.keeps h _ _ hra))
  have HR2 := Lib.hid (fun (w' : World) (h : Below w.heap.size w w') => troot_any w' b q2 (Below.keeps h _ _ hrb))
  have H0 := Lib.hid (show InvT w w.heap.size [] (w.alloc (.cells #[.slice none 0 0] 81)) from ⟨_, alloc_blk _ _, OwnC.nil _ _ _, (by repeat (first | exact Below.refl _ _ | (refine Below.drew ?_) | (refine below_drewN' ?_ _) | (refine below_alloc' ?_ _) | (refine Below.setCell ?_ (by first | exact Nat.le_refl _ | (simp; done) | (simp; omega)) _)))⟩)
  clear ha hb hra hrb hla hlb hq1 hq2 hN
  go_enter Tryz.func94, Tryz.ntmps94
  go_wp2_with fail
  refine (HCK.out).mono ?_
  rintro e w1 ⟨rfl, hw⟩
  obtain rfl := hw.symm
  clear hw
  go_wp2_with fail
  refine (HR1.out _ (by repeat (first | exact Below.refl _ _ | (refine Below.drew ?_) | (refine below_drewN' ?_ _) | (refine below_alloc' ?_ _) | (refine Below.setCell ?_ (by first | exact Nat.le_refl _ | (simp; done) | (simp; omega)) _)))).mono ?_
  rintro e w1 ⟨rfl, hw⟩
  obtain rfl := hw.symm
  clear hw
  go_wp2_with fail
  refine (HR2.out _ (by repeat (first | exact Below.refl _ _ | (refine Below.drew ?_) | (refine below_drewN' ?_ _) | (refine below_alloc' ?_ _) | (refine Below.setCell ?_ (by first | exact Nat.le_refl _ | (simp; done) | (simp; omega)) _)))).mono ?_
  rintro e w1 ⟨rfl, hw⟩
  obtain rfl := hw.symm
  clear hw
  go_wp2_with fail
  refine (HBO.out _ H0.out).mono ?_
  rintro e w1 ⟨rfl, ⟨vo, hblk, hown, hb⟩, _⟩
  rw [List.nil_append] at hown
  have HF := Lib.hid (And.intro hown hb)
  have kb := cell_of_one hblk
  have hl := lt_of_block hblk
  clear hown hb hblk H0
  go_wp2_with fail
  refine bodyPost_ret (v := .tuple #[vo, .int .i64 0]) (by simp [results, Tryz.results94, go_sem]) rfl ?_
  exact ⟨_, rfl, HF.out⟩
end Go.Proofs.YtdkomhmciihkiaaGreat
/-! Region5 -/
namespace Go
open Go.RowKit
set_option linter.unusedVariables false

section
variable {P : Program} {ops : Array Oper} {V : Nat → Value → World → Prop} {a0 : Act} {W : World} {Q : Exit → Act → World → Prop}

end

end Go
/-! Region6 -/
namespace Go
open Go.RowKit
set_option linter.unusedVariables false

section
variable {P : Program} {ops : Array Oper} {V : Nat → (Nat → Bool) → Value → World → Prop} {a0 : Act} {Q : Exit → Act → World → Prop} {sp : Nat} {P0 P1 : World → Prop} {Step : Nat → World → World → Prop}

end

end Go
/-! BoxA -/
namespace Go.Proofs.YtdkomhmciihkiaaGreat
open Go.RowKit
set_option linter.unusedVariables false
set_option linter.unusedSimpArgs false
set_option maxRecDepth 100000

end Go.Proofs.YtdkomhmciihkiaaGreat
/-! PrsP -/
namespace Go.Proofs.YtdkomhmciihkiaaGreat
set_option linter.unusedVariables false
set_option linter.unusedSimpArgs false

end Go.Proofs.YtdkomhmciihkiaaGreat
/-! BoxB -/
namespace Go.Proofs.YtdkomhmciihkiaaGreat
open Go.RowKit
set_option linter.unusedVariables false
set_option linter.unusedSimpArgs false
set_option maxRecDepth 100000

end Go.Proofs.YtdkomhmciihkiaaGreat
/-! BoxC -/
namespace Go.Proofs.YtdkomhmciihkiaaGreat
open Go.RowKit
set_option linter.unusedVariables false
set_option linter.unusedSimpArgs false
set_option maxRecDepth 100000

end Go.Proofs.YtdkomhmciihkiaaGreat
/-! PrsA -/
namespace Go.Proofs.YtdkomhmciihkiaaGreat
open Go.RowKit
set_option linter.unusedVariables false
set_option linter.unusedSimpArgs false
set_option maxRecDepth 100000

/-- the box of a node, once it has been asked for -/
def BoxR (w : World) (k : Nat) (p : List Nat) (m : Nat) (X : Nat) : Prop := ∃ g h, w.heap[X]? = some (.cells #[.slice (some ⟨g, 0, none⟩) k k, .slice (some ⟨h, 0, none⟩) k k] 274 (0, 0)) ∧ PtNew w (.slice (some ⟨g, 0, none⟩) k k) p ∧ PtNew w (.slice (some ⟨h, 0, none⟩) k k) (p.map fun c => c + (2 ^ m - 1))
theorem BoxR.below {w w' : World} {k : Nat} {p : List Nat} {m X : Nat} (h : BoxR w k p m X) (hb : Below w.heap.size w w') : BoxR w' k p m X :=
  let ⟨g, h1, h2, h3, h4⟩ := h
  ⟨g, h1, (hb.block _ (lt_of_block h2)).trans h2, h3.below hb, h4.below hb⟩
end Go.Proofs.YtdkomhmciihkiaaGreat
/-! PrsB -/
namespace Go.Proofs.YtdkomhmciihkiaaGreat
open Go.RowKit
set_option linter.unusedVariables false
set_option linter.unusedSimpArgs false
set_option maxRecDepth 100000

end Go.Proofs.YtdkomhmciihkiaaGreat
/-! PrsC -/
namespace Go
open Go.RowKit
/-- a goto loop with an invariant that counts down -/
theorem wp_scope_jumpsN {P : Program} {a : Act} {w : World} {Q : Exit → Act → World → Prop} {c rest : Code} (l : Nat) (J : Nat → Act → World → Prop) (hf : findLabel c l = some (Code.skip.seq rest))
    (pass : ∀ n a w, J n a w → rest.wp P (Exit.jump l (fun a' w' => ∃ m, m < n ∧ J m a' w') Q) a w)
    (first : ∀ Q', (∀ n a w, J n a w → rest.wp P Q' a w) → c.wp P Q' a w) : (Code.scope c).wp P Q a w := by
  classical
  have key : ∀ a w, (∃ n, J n a w) → ∃ n, J n a w ∧ ∀ m, J m a w → n ≤ m := fun a w h => by
    obtain ⟨n, hn⟩ := h
    induction n using Nat.strongRecOn with
    | _ n ih =>
      by_cases hx : ∃ m, m < n ∧ J m a w
      · obtain ⟨m, h1, h2⟩ := hx
        exact ih m h1 h2
      · exact ⟨n, hn, fun m hm => Nat.le_of_not_lt fun h => hx ⟨m, h, hm⟩⟩
  let μ : Act → World → Nat := fun a w => if h : ∃ n, J n a w then (key a w h).choose else 0
  have hμ : ∀ a w (h : ∃ n, J n a w), J (μ a w) a w ∧ ∀ m, J m a w → μ a w ≤ m := fun a w h => by
    simp only [μ, dif_pos h]
    exact (key a w h).choose_spec
  have pass' : ∀ a w, (∃ n, J n a w) → rest.wp P (Exit.jump l (fun a' w' => (∃ n, J n a' w') ∧ μ a' w' < μ a w) Q) a w := fun a w h => by
    obtain ⟨h1, h2⟩ := hμ a w h
    refine wp_mono (pass (μ a w) a w h1) ?_
    intro e a' w' h
    cases e
    case goto l' =>
      obtain ⟨e1, m, h3, h4⟩ := h
      exact ⟨e1, ⟨m, h4⟩, Nat.lt_of_le_of_lt ((hμ a' w' ⟨m, h4⟩).2 m h4) h3⟩
    all_goals exact h
  refine wp_scope_jumps l (fun a w => ∃ n, J n a w) μ hf (first _ fun n a w hJ => wp_mono (pass' a w ⟨n, hJ⟩) ?_) (fun a w hJ => wp_seq (wp_skip (pass' a w hJ)))
  intro e a' w' h
  cases e
  case goto l' => exact ⟨h.1, h.2.1⟩
  all_goals exact h
end Go
namespace Go.Proofs.YtdkomhmciihkiaaGreat
open Go.RowKit
set_option linter.unusedVariables false
set_option linter.unusedSimpArgs false
set_option maxRecDepth 100000

/-- two nodes: block and list of each -/
abbrev Cp := (Nat × List En) × (Nat × List En)
def cpV (x : Cp) : List Value := [.pointer (some ⟨x.1.1, 0, none⟩), .pointer (some ⟨x.2.1, 0, none⟩)]
def cpsV (l : List Cp) : List Value := l.flatMap cpV
/-- a row of couples of the call's own -/
def OwnQ (W w : World) (v : Value) (l : List Cp) : Prop := w.ownsRow W.heap.size 197 2 v l.length (cpsV l)
theorem OwnQ.nil (W w : World) : OwnQ W w (.slice none 0 0) [] := World.ownsRow_nil _ _ _ _
theorem OwnQ.below {W w w' : World} {v : Value} {l : List Cp} (h : OwnQ W w v l) (hb : Below w.heap.size w w') : OwnQ W w' v l := by
  obtain ⟨h1, h2⟩ := h
  refine ⟨h1, ?_⟩
  rcases h2 with h2 | ⟨g, cap, cur, q1, q2, q3, q4⟩
  · exact .inl h2
  · exact .inr ⟨g, cap, cur, q1, q2, (hb.block g (Array.getElem?_eq_some_iff.1 q3).1).trans q3, q4⟩
theorem OwnQ.block {W w : World} {v : Value} {l : List Cp} (h : OwnQ W w v l) : ∀ k, v.ownBlock = some k → W.heap.size ≤ k ∧ ∃ cur, w.heap[k]? = some (.cells cur 197 (0, 0)) := by
  obtain ⟨h1, h2⟩ := h
  intro k hk
  rcases h2 with ⟨rfl, _⟩ | ⟨g, cap, cur, rfl, q2, q3, q4⟩
  · cases hk
  · injection hk with hk; subst hk; exact ⟨q2, cur, q3⟩
/-- blocks stay, but for rows of couples -/
structure Kq (w w' : World) : Prop where
  size : w.heap.size ≤ w'.heap.size
  keep : ∀ (b : Nat) cur t fr, w.heap[b]? = some (.cells cur t fr) → t ≠ 197 → w'.heap[b]? = some (.cells cur t fr)
theorem Kq.refl (w : World) : Kq w w := ⟨Nat.le_refl _, fun b cur t fr h _ => h⟩
theorem Kq.trans {w w' w'' : World} (h : Kq w w') (g : Kq w' w'') : Kq w w'' := ⟨Nat.le_trans h.size g.size, fun b cur t fr q1 q2 => g.keep b cur t fr (h.keep b cur t fr q1 q2) q2⟩
theorem Kq.of {w w' : World} (h : Below w.heap.size w w') : Kq w w' := ⟨h.size, fun b cur t fr q1 _ => (h.block b (lt_of_block q1)).trans q1⟩
end Go.Proofs.YtdkomhmciihkiaaGreat
/-! MrgE -/
namespace Go.Proofs.YtdkomhmciihkiaaGreat
open Go.RowKit
set_option linter.unusedVariables false
set_option linter.unusedSimpArgs false
set_option maxRecDepth 100000

/-- one change in a row's cells -/
def ChC (w : World) (cur : Array Value) (o : Nat) (c : Ch) : Prop := ∃ u, PtNew w u c.p ∧ cur[o]? = some u ∧ cur[o + 1]? = some (.bool c.had) ∧ cur[o + 2]? = some (.bool c.has) ∧ cur[o + 3]? = some (.int .u64 (c.old : Nat)) ∧ cur[o + 4]? = some (.int .u64 (c.new : Nat))
/-- a slice reads as changes, in a block of changes -/
def ChV (w : World) (v : Value) (l : List Ch) : Prop :=
  ∃ A n, v = .slice A l.length n ∧ l.length ≤ n ∧ n ≤ maxLen ∧ (0 < l.length → ∃ g o cur fr, A = some ⟨g, o, none⟩ ∧ w.heap[g]? = some (.cells cur 169 fr) ∧ ∀ j (h : j < l.length), ChC w cur (o + j * 5) l[j])
theorem CellsC.get {Pt : Value → List Nat → Prop} {cs : List Value} {l : List Ch} (h : CellsC Pt l cs) :
    ∀ j (h : j < l.length), ∃ u, Pt u l[j].p ∧ cs[j * 5]? = some u ∧ cs[j * 5 + 1]? = some (.bool l[j].had) ∧ cs[j * 5 + 2]? = some (.bool l[j].has) ∧ cs[j * 5 + 3]? = some (.int .u64 (l[j].old : Nat)) ∧ cs[j * 5 + 4]? = some (.int .u64 (l[j].new : Nat)) := by
  induction l generalizing cs with
  | nil => intro j hj; simp at hj
  | cons e l ih =>
    obtain ⟨u, ds, rfl, hu, h⟩ := h
    intro j hj
    cases j with
    | zero => exact ⟨u, hu, by simp, by simp, by simp, by simp, by simp⟩
    | succ j =>
      obtain ⟨u', h0, h1, h2, h3, h4, h5⟩ := ih h j (by simpa using hj)
      refine ⟨u', by simpa using h0, ?_, ?_, ?_, ?_, ?_⟩
      · rw [show (j + 1) * 5 = j * 5 + 1 + 1 + 1 + 1 + 1 by omega]; simpa using h1
      · rw [show (j + 1) * 5 + 1 = j * 5 + 1 + 1 + 1 + 1 + 1 + 1 by omega]; simpa using h2
      · rw [show (j + 1) * 5 + 2 = j * 5 + 2 + 1 + 1 + 1 + 1 + 1 by omega]; simpa using h3
      · rw [show (j + 1) * 5 + 3 = j * 5 + 3 + 1 + 1 + 1 + 1 + 1 by omega]; simpa using h4
      · rw [show (j + 1) * 5 + 4 = j * 5 + 4 + 1 + 1 + 1 + 1 + 1 by omega]; simpa using h5
theorem OwnC.chV {W w : World} {v : Value} {l : List Ch} (h : OwnC (PtNew w) W w v l) : ChV w v l := by
  obtain ⟨cs, ⟨h1, h2⟩, h3⟩ := h
  rcases h2 with ⟨rfl, h0⟩ | ⟨g, cap, cur, rfl, q2, q3, q4, q5, q6, q7⟩
  · exact ⟨none, 0, by rw [h0], by omega, by simp [maxLen], fun hp => absurd hp (by omega)⟩
  · refine ⟨_, _, rfl, q4, q5, fun _ => ⟨g, 0, cur, _, rfl, q3, fun j hj => ?_⟩⟩
    obtain ⟨u, r0, r1, r2, r3, r4, r5⟩ := h3.get j hj
    have key : ∀ i, i < l.length * 5 → cs[i]? = cur[i]? := fun i hi => by rw [← q7, List.getElem?_take_of_lt hi]; simp
    rw [key _ (by omega)] at r1 r2 r3 r4 r5
    simp only [Nat.zero_add]
    exact ⟨u, r0, r1, r2, r3, r4, r5⟩
theorem Km.chV {w w' : World} (h : Km w w') {v : Value} {l : List Ch} (hv : ChV w v l) : ChV w' v l := by
  obtain ⟨A, n, e, h1, h1', h2⟩ := hv
  refine ⟨A, n, e, h1, h1', fun hp => ?_⟩
  obtain ⟨g, o, cur, fr, ea, hb, hc⟩ := h2 hp
  refine ⟨g, o, cur, fr, ea, h.keep _ _ _ _ hb (by decide), fun j hj => ?_⟩
  obtain ⟨u, hu, r⟩ := hc j hj
  exact ⟨u, h.ptNew hu, r⟩
theorem ChV.nilS {w : World} {v : Value} (h : ChV w v []) : ∃ A n, v = .slice A 0 n := let ⟨A, n, e, _⟩ := h; ⟨A, n, e⟩
theorem ChV.head {w : World} {v : Value} {c : Ch} {l : List Ch} (h : ChV w v (c :: l)) :
    ∃ g o n A m cc, v = .slice (some ⟨g, o, none⟩) (l.length + 1) n ∧ l.length + 1 ≤ n ∧ n ≤ maxLen ∧ PtNew w (.slice A m cc) c.p ∧ w.cell? ⟨g, o, none⟩ = some (.slice A m cc) ∧ w.cell? ⟨g, o + 1, none⟩ = some (.bool c.had) ∧ w.cell? ⟨g, o + 2, none⟩ = some (.bool c.has) ∧ w.cell? ⟨g, o + 3, none⟩ = some (.int .u64 (c.old : Nat)) ∧ w.cell? ⟨g, o + 4, none⟩ = some (.int .u64 (c.new : Nat)) ∧ (∃ cur fr, w.heap[g]? = some (.cells cur 169 fr)) ∧
      ChV w (.slice (if n = 1 then some ⟨g, o, none⟩ else some ⟨g, o + 5, none⟩) l.length (n - 1)) l := by
  obtain ⟨A, n, rfl, h1, h1', h2⟩ := h
  obtain ⟨g, o, cur, fr, rfl, hb, hc⟩ := h2 (by simp)
  obtain ⟨u, hu, r0, r1, r2, r3, r4⟩ := hc 0 (by simp)
  simp only [Nat.zero_mul, Nat.add_zero, List.getElem_cons_zero] at r0 r1 r2 r3 r4 hu
  obtain ⟨A, cc, rfl, _⟩ := RdU.point hu.rd
  rw [List.length_cons] at h1
  refine ⟨g, o, n, A, _, cc, rfl, h1, h1', hu, by simp [World.cell?, hb, r0], by simp [World.cell?, hb, r1], by simp [World.cell?, hb, r2], by simp [World.cell?, hb, r3], by simp [World.cell?, hb, r4], ⟨cur, fr, hb⟩, ?_⟩
  refine ⟨_, _, rfl, by omega, by omega, fun hp => ⟨g, o + 5, cur, fr, by rw [if_neg (by omega)], hb, fun j hj => ?_⟩⟩
  have := hc (j + 1) (by rw [List.length_cons]; omega)
  rw [show o + (j + 1) * 5 = o + 5 + j * 5 by omega, List.getElem_cons_succ] at this
  exact this
theorem Km.setT {w : World} {T j : Nat} {x : Value} {cur : Array Value} {t : TypeId} {fr : Nat × Nat} (hT : w.heap[T]? = some (.cells cur t fr)) (ht : MT t = true) : Km w (w.setCell ⟨T, j, none⟩ x) := by
  refine ⟨by rw [World.size_setCell]; exact Nat.le_refl _, fun b cur' t' fr' h1 h2 => ?_⟩
  have hne : b ≠ T := fun e => by
    subst e
    rw [hT] at h1
    injection h1 with h1
    injection h1 with _ h1 _
    subst h1
    rw [ht] at h2
    cases h2
  rw [heap_setCell_other _ _ _ _ hne]
  exact h1
/-- what both makes of two changes at one point -/
theorem mboth_any (W w : World) (G k : Nat) (f : FuncId) (g : Clh → Option Nat) (cl : List Clh) (x y : Ch) (A0 A1 : Option Addr) (n0 cc0 n1 cc1 : Nat) (hP : PickOk f g) (hi : InvM W G k (.func (.func f) #[] #[]) cl w) (hu : PtNew w (.slice A0 n0 cc0) x.p) (hcl : cl.length ≤ 1000) (hx : x.right = true) (hy : y.right = true) :
    Calls Tryz.prog 246 #[.pointer (some ⟨G, 0, none⟩), AgC (.slice A0 n0 cc0) x, AgC (.slice A1 n1 cc1) y] w fun e w' => BothP W w G k (.func (.func f) #[] #[]) (nowV g (some x) y) (cl ++ (clhV (some x) y).toList) e w' := by
  obtain ⟨_, hx1, hx2, _⟩ := right_parts hx
  obtain ⟨_, _, hy2, _⟩ := right_parts hy
  obtain ⟨p, had, hasx, ox, nx⟩ := x
  obtain ⟨q, hady, hasy, oy, ny⟩ := y
  simp only at hx1 hx2 hy2 hu
  have hsame : ∀ h : Bool, hasx = h → hasy = h → nx = ny → Calls Tryz.prog 246 #[.pointer (some ⟨G, 0, none⟩), AgC (.slice A0 n0 cc0) ⟨p, had, hasx, ox, nx⟩, AgC (.slice A1 n1 cc1) ⟨q, hady, hasy, oy, ny⟩] w fun e w' => BothP W w G k (.func (.func f) #[] #[]) (nowV g (some ⟨p, had, hasx, ox, nx⟩) ⟨q, hady, hasy, oy, ny⟩) (cl ++ (clhV (some ⟨p, had, hasx, ox, nx⟩) ⟨q, hady, hasy, oy, ny⟩).toList) e w' := by
    intro h e1 e2 e3
    subst e1 e2 e3
    have hs : sameC ⟨p, had, hasy, ox, nx⟩ ⟨q, hady, hasy, oy, nx⟩ = true := by unfold sameC; simp
    have hv : nowV g (some ⟨p, had, hasy, ox, nx⟩) ⟨q, hady, hasy, oy, nx⟩ = valO hasy nx := by unfold nowV; simp only [hs, if_true]
    have hc : (clhV (some ⟨p, had, hasy, ox, nx⟩) ⟨q, hady, hasy, oy, nx⟩).toList = [] := by unfold clhV; simp only [hs, if_true]; rfl
    rw [hv, hc, List.append_nil]
    cases hasy
    · obtain rfl : nx = 0 := hx2 rfl
      refine (bothS_false w G A0 A1 n0 cc0 n1 cc1 had hady ox 0 oy).mono fun e w' => ?_
      rintro ⟨rfl, hb⟩
      exact ⟨rfl, hi.below hb, Km.of hb⟩
    · refine (bothS_true w G A0 A1 n0 cc0 n1 cc1 had hady ox nx oy).mono fun e w' => ?_
      rintro ⟨rfl, hb⟩
      exact ⟨rfl, hi.below hb, Km.of hb⟩
  have hdiff : ∀ (hs : sameC ⟨p, had, hasx, ox, nx⟩ ⟨q, hady, hasy, oy, ny⟩ = false), nowV g (some ⟨p, had, hasx, ox, nx⟩) ⟨q, hady, hasy, oy, ny⟩ = g ⟨p, had, hasx, hasy, ox, nx, ny⟩ ∧ (clhV (some ⟨p, had, hasx, ox, nx⟩) ⟨q, hady, hasy, oy, ny⟩).toList = [⟨p, had, hasx, hasy, ox, nx, ny⟩] := by
    intro hs
    unfold nowV clhV
    simp only [hs, Bool.false_eq_true, if_false]
    exact ⟨rfl, rfl⟩
  have hok : ClOk ⟨p, had, hasx, hasy, ox, nx, ny⟩ := ⟨hx1, hx2, hy2⟩
  cases hasx <;> cases hasy
  · exact hsame false rfl rfl (by rw [hx2 rfl, hy2 rfl])
  · obtain ⟨e1, e2⟩ := hdiff (by unfold sameC; simp)
    rw [e1, e2]
    exact both_ft W w G k f g cl p A0 A1 n0 cc0 n1 cc1 had hady ox nx oy ny hP hi hu hcl hok
  · obtain ⟨e1, e2⟩ := hdiff (by unfold sameC; simp)
    rw [e1, e2]
    exact both_tf W w G k f g cl p A0 A1 n0 cc0 n1 cc1 had hady ox nx oy ny hP hi hu hcl hok
  · by_cases hn : nx = ny
    · exact hsame true rfl rfl hn
    · obtain ⟨e1, e2⟩ := hdiff (by unfold sameC; simp [hn])
      rw [e1, e2]
      exact both_tt W w G k f g cl p A0 A1 n0 cc0 n1 cc1 had hady ox nx oy ny hP hi hu hcl hok (by omega)
end Go.Proofs.YtdkomhmciihkiaaGreat
/-! DifR -/
namespace Go.Proofs.YtdkomhmciihkiaaGreat
open Go.RowKit
set_option linter.unusedVariables false

/-- a change between two lists, by its key -/
theorem chg_at {k : Nat} {a b : List En} (ha : Et k a) (hb : Et k b) {c : Ch} (hc : c ∈ changesL a b) : chgE (Od.look En.key a c.key) (Od.look En.key b c.key) = some c := by
  rw [← chg_look ha hb]
  exact Od.look_mem (changesL_spec ha hb).1 hc
theorem chg_rt {k : Nat} {a b : List En} (ha : Et k a) (hb : Et k b) : Rt k (changesL a b) := by
  have key : ∀ c ∈ changesL a b, c.p.length = k ∧ c.right = true ∧ ∀ x ∈ c.p, x < 2 ^ 64 := fun c hc => by
    have h := chg_at ha hb hc
    cases ea : Od.look En.key a c.key with
    | none =>
      cases eb : Od.look En.key b c.key with
      | none => rw [ea, eb] at h; cases h
      | some y =>
        rw [ea, eb] at h
        obtain ⟨h1, h2⟩ := Od.look_some eb
        injection h with h
        rw [← h]
        exact ⟨hb.len y h1, by simp [comeC, Ch.right, rightBits], hb.ok y h1⟩
    | some x =>
      obtain ⟨h1, h2⟩ := Od.look_some ea
      cases eb : Od.look En.key b c.key with
      | none =>
        rw [ea, eb] at h
        injection h with h
        rw [← h]
        exact ⟨ha.len x h1, by simp [goneC, Ch.right, rightBits], ha.ok x h1⟩
      | some y =>
        rw [ea, eb] at h
        simp only [chgE] at h
        split at h
        · cases h
        · rename_i hne
          injection h with h
          rw [← h]
          exact ⟨ha.len x h1, by simp [Ch.right, rightBits]; omega, ha.ok x h1⟩
  exact ⟨fun c hc => (key c hc).1, fun c hc => (key c hc).2.1, (changesL_spec ha hb).1, fun c hc => (key c hc).2.2⟩
theorem chg_okV {k : Nat} {a b : List En} (ha : Et k a) (hb : Et k b) (va : ∀ e ∈ a, e.v < 2 ^ 64) (vb : ∀ e ∈ b, e.v < 2 ^ 64) : OkV (changesL a b) := fun c hc => by
  have h := chg_at ha hb hc
  cases ea : Od.look En.key a c.key with
  | none =>
    cases eb : Od.look En.key b c.key with
    | none => rw [ea, eb] at h; cases h
    | some y => rw [ea, eb] at h; injection h with h; rw [← h]; exact ⟨by simp [comeC], vb y (Od.look_some eb).1⟩
  | some x =>
    cases eb : Od.look En.key b c.key with
    | none => rw [ea, eb] at h; injection h with h; rw [← h]; exact ⟨va x (Od.look_some ea).1, by simp [goneC]⟩
    | some y =>
      rw [ea, eb] at h
      simp only [chgE] at h
      split at h
      · cases h
      · injection h with h; rw [← h]; exact ⟨va x (Od.look_some ea).1, vb y (Od.look_some eb).1⟩
end Go.Proofs.YtdkomhmciihkiaaGreat
/-! MrgF -/
namespace Go.Proofs.YtdkomhmciihkiaaGreat
open Go.RowKit
set_option linter.unusedVariables false
set_option linter.unusedSimpArgs false
set_option maxRecDepth 100000

/-- what is picked is no larger than what there is -/
def GOk (g : Clh → Option Nat) : Prop := ∀ c v, c.o < 2 ^ 64 → c.a < 2 ^ 64 → c.b < 2 ^ 64 → g c = some v → v < 2 ^ 64
structure ApI (W w0 : World) (k G : Nat) (pk : Value) (g : Clh → Option Nat) (xs : List Ch) (RL : List En) (CA : List Clh) (n : Nat) (w : World) (vx vy : Value) (t : Nat) (X Y : List Ch) (L : List En) (CL : List Clh) : Prop where
  x : ChV w vx X
  y : ChV w vy Y
  tr : TrR w t k L
  inv : InvM W G k pk CL w
  km : Km w0 w
  res : apL g xs L Y = RL
  cls : CL ++ apC xs Y = CA
  rx : Rt k X
  ry : Rt k Y
  ox : OkV X
  oy : OkV Y
  look : ∀ c ∈ Y, Od.look Ch.key xs c.key = Od.look Ch.key X c.key
  n : X.length + Y.length ≤ n
  cl : CL.length + Y.length ≤ 1000
theorem ApI.step {W w0 : World} {k G : Nat} {pk : Value} {g : Clh → Option Nat} {xs : List Ch} {RL : List En} {CA : List Clh} {n : Nat} {w w' : World} {vx vy : Value} {t : Nat} {X Y : List Ch} {L : List En} {CL : List Clh}
    (h : ApI W w0 k G pk g xs RL CA n w vx vy t X Y L CL) (hb : Below w.heap.size w w') : ApI W w0 k G pk g xs RL CA n w' vx vy t X Y L CL :=
  ⟨(Km.of hb).chV h.x, (Km.of hb).chV h.y, h.tr.bel hb, h.inv.below hb, h.km.trans (Km.of hb), h.res, h.cls, h.rx, h.ry, h.ox, h.oy, h.look, h.n, h.cl⟩
theorem Rt.tailC {k : Nat} {c : Ch} {l : List Ch} (h : Rt k (c :: l)) : Rt k l := ⟨fun d hd => h.len d (List.mem_cons_of_mem _ hd), fun d hd => h.right d (List.mem_cons_of_mem _ hd), h.asc.tail, fun d hd => h.ok d (List.mem_cons_of_mem _ hd)⟩
theorem OkV.tailC {c : Ch} {l : List Ch} (h : OkV (c :: l)) : OkV l := fun d hd => h d (List.mem_cons_of_mem _ hd)
/-- the change ahead is smaller: it is passed -/
theorem ApI.pass {W w0 : World} {k G : Nat} {pk : Value} {g : Clh → Option Nat} {xs : List Ch} {RL : List En} {CA : List Clh} {n : Nat} {w : World} {vx vy vx' : Value} {t : Nat} {c d : Ch} {X Y : List Ch} {L : List En} {CL : List Clh}
    (h : ApI W w0 k G pk g xs RL CA n w vx vy t (d :: X) (c :: Y) L CL) (hx : ChV w vx' X) (hlt : Zb.cmp d.p c.p < 0) : ApI W w0 k G pk g xs RL CA (n - 1) w vx' vy t X (c :: Y) L CL := by
  have hk : d.key < c.key := (cmp_neg _ _).1 hlt
  refine ⟨hx, h.y, h.tr, h.inv, h.km, h.res, h.cls, h.rx.tailC, h.ry, h.ox.tailC, h.oy, fun e he => ?_, by have := h.n; simp only [List.length_cons] at this ⊢; omega, h.cl⟩
  rw [h.look e he, Od.look_cons, if_neg]
  rcases List.mem_cons.1 he with rfl | he
  · omega
  · have := h.ry.asc.head e he; omega
/-- a change is done -/
theorem ApI.put {W w0 : World} {k G : Nat} {pk : Value} {g : Clh → Option Nat} {xs : List Ch} {RL : List En} {CA : List Clh} {n : Nat} {w w' : World} {vx vy vy' : Value} {t t' : Nat} {c : Ch} {X Y : List Ch} {L : List En} {CL CL' : List Clh} {now : Option Nat}
    (h : ApI W w0 k G pk g xs RL CA n w vx vy t X (c :: Y) L CL) (hk : Km w w') (hy : ChV w vy' Y) (hnow : now = nowV g (Od.look Ch.key X c.key) c) (hcl : CL' = CL ++ (clhV (Od.look Ch.key X c.key) c).toList)
    (ht : TrR w' t' k (putV c.p now L)) (hi : InvM W G k pk CL' w') : ApI W w0 k G pk g xs RL CA (n - 1) w' vx vy' t' X Y (putV c.p now L) CL' := by
  have hl := h.look c (List.mem_cons_self ..)
  refine ⟨hk.chV h.x, hk.chV hy, ht, hi, h.km.trans hk, ?_, ?_, h.rx, h.ry.tailC, h.ox, h.oy.tailC, fun e he => h.look e (List.mem_cons_of_mem _ he), by have := h.n; simp only [List.length_cons] at this; omega, ?_⟩
  · rw [← h.res]
    show _ = apL g xs (putV c.p (nowV g (Od.look Ch.key xs c.key) c) L) Y
    rw [hl, hnow]
  · rw [← h.cls, hcl, List.append_assoc]
    congr 1
    unfold apC
    rw [List.filterMap_cons, hl]
    cases clhV (Od.look Ch.key X c.key) c <;> rfl
  · have := h.cl
    have h2 : (clhV (Od.look Ch.key X c.key) c).toList.length ≤ 1 := by cases clhV (Od.look Ch.key X c.key) c <;> simp
    rw [hcl, List.length_append]
    simp only [List.length_cons] at this
    omega
theorem ApI.vals {W w0 : World} {k G : Nat} {pk : Value} {g : Clh → Option Nat} {xs : List Ch} {RL : List En} {CA : List Clh} {n : Nat} {w : World} {vx vy : Value} {t : Nat} {c : Ch} {X Y : List Ch} {L : List En} {CL : List Clh}
    (h : ApI W w0 k G pk g xs RL CA n w vx vy t X (c :: Y) L CL) (hg : GOk g) : ∀ v, nowV g (Od.look Ch.key X c.key) c = some v → v < 2 ^ 64 := fun v hv => by
  have hc := h.oy c (List.mem_cons_self ..)
  unfold nowV at hv
  cases hx : Od.look Ch.key X c.key with
  | none =>
    rw [hx] at hv
    simp only at hv
    unfold valO at hv
    split at hv
    · injection hv with hv; subst hv; exact hc.2
    · cases hv
  | some d =>
    have hd := h.ox d (Od.look_some hx).1
    rw [hx] at hv
    simp only at hv
    split at hv
    · unfold valO at hv
      split at hv
      · injection hv with hv; subst hv; exact hd.2
      · cases hv
    · exact hg _ v hd.1 hd.2 hc.2 hv
theorem alloc2 (w : World) (o0 o1 : Obj) : ((w.alloc o0).alloc o1).heap[w.heap.size]? = some o0 ∧ ((w.alloc o0).alloc o1).heap[w.heap.size + 1]? = some o1 ∧ Below w.heap.size w ((w.alloc o0).alloc o1) := by
  have a0 := heap_alloc_new w o0
  have a1 := heap_alloc_new (w.alloc o0) o1
  have a3 := (Below.heap_alloc _ o1 _ (lt_of_block a0)).trans a0
  simp only [World.size_alloc] at a1
  exact ⟨a3, a1, (by repeat (first | exact Below.refl _ _ | (refine Below.drew ?_) | (refine below_drewN' ?_ _) | (refine below_alloc' ?_ _) | (refine Below.setCell ?_ (by first | exact Nat.le_refl _ | (simp; done) | (simp; omega)) _)))⟩
theorem valO_valV {c : Ch} (h : c.right = true) : valV (valO c.has c.new) = .agg #[.bool c.has, .int .u64 (c.new : Nat)] := by
  obtain ⟨_, _, h2, _⟩ := right_parts h
  cases hh : c.has with
  | true => rfl
  | false => rw [h2 hh]; rfl
end Go.Proofs.YtdkomhmciihkiaaGreat
/-! RowD -/
namespace Go.Proofs.YtdkomhmciihkiaaGreat
open Go.RowKit
set_option linter.unusedVariables false

/-- the row at block g, with room for n, holds the entries l; their points lie in rows of numbers -/
structure RowD (W0 w : World) (g n : Nat) (l : List En) : Prop where
  cells : ∃ cur, w.heap[g]? = some (.cells cur 35 (0, 0)) ∧ cur.size = n * 2 ∧ ∀ j (h : j < l.length), ∃ u, cur[j * 2]? = some u ∧ PtNew w u l[j].p ∧ cur[j * 2 + 1]? = some (.int .u64 (l[j].v : Nat))
  le : l.length ≤ n ∧ n ≤ maxLen
  low : W0.heap.size ≤ g
  bel : Below W0.heap.size W0 w
theorem RowD.lt {W0 w : World} {g n : Nat} {l : List En} (h : RowD W0 w g n l) : g < w.heap.size := by
  obtain ⟨cur, h1, _⟩ := h.cells
  exact kr_lt h1
theorem RowD.at' {W0 w : World} {g n : Nat} {l : List En} (h : RowD W0 w g n l) (j : Nat) (hj : j < l.length) : ∃ u, w.cell? ⟨g, j * 2, none⟩ = some u ∧ PtNew w u l[j].p ∧ w.cell? ⟨g, j * 2 + 1, none⟩ = some (.int .u64 (l[j].v : Nat)) := by
  obtain ⟨cur, h1, h2, h3⟩ := h.cells
  obtain ⟨u, a, b, c⟩ := h3 j hj
  exact ⟨u, by simp [World.cell?, h1, a], b, by simp [World.cell?, h1, c]⟩
theorem RowD.step {W0 w w' : World} {g n : Nat} {l : List En} (h : RowD W0 w g n l) (hb : Below w.heap.size w w') : RowD W0 w' g n l := by
  obtain ⟨cur, h1, h2, h3⟩ := h.cells
  exact ⟨⟨cur, (hb.block g h.lt).trans h1, h2, fun j hj => let ⟨u, a, b, c⟩ := h3 j hj; ⟨u, a, b.below hb, c⟩⟩, h.le, h.low, h.bel.trans (hb.mono h.bel.size)⟩
theorem RowD.rd {W0 w : World} {g n : Nat} {l : List En} (h : RowD W0 w g n l) : RdE w (.slice (some ⟨g, 0, none⟩) l.length n) l :=
  ⟨_, _, rfl, ⟨h.le.1, h.le.2, fun _ => ⟨_, _, rfl⟩⟩, fun _ => ⟨g, 0, rfl, fun j hj => by
    obtain ⟨u, a, b, c⟩ := h.at' j hj
    exact ⟨u, by simpa using a, b.rd, by simpa using c⟩⟩⟩
theorem of_rt (w : World) (k : Nat) (r : Option Nat) (l : List En) (hr : RtN w k r l) (k1 : 1 ≤ k) (k16 : k ≤ 16) :
    Calls Tryz.prog 60 #[.int .i64 (k : Nat), pv r] w fun e w' => ∃ t, e = .returned (.tuple #[.pointer (some ⟨t, 0, none⟩), .int .i64 0]) ∧ TrR w' t k l ∧ Below w.heap.size w w' := by
  cases r with
  | none => obtain rfl : l = [] := hr; exact of_nil w k k1 k16
  | some g => exact of_nd w k g l hr k1 k16
end Go.Proofs.YtdkomhmciihkiaaGreat
/-! MrgG -/
namespace Go.Proofs.YtdkomhmciihkiaaGreat
open Go.RowKit
set_option linter.unusedVariables false
set_option linter.unusedSimpArgs false
set_option maxRecDepth 100000

theorem cells_of_two2 {w : World} {b : Nat} {u v : Value} {t : TypeId} {fr : Nat × Nat} (h : w.heap[b]? = some (.cells #[u, v] t fr)) : w.cell? ⟨b, 0, none⟩ = some u ∧ w.cell? ⟨b, 1, none⟩ = some v ∧ True :=
  ⟨by simp [World.cell?, h], by simp [World.cell?, h], trivial⟩
theorem cells3_of {w : World} {b : Nat} {u v x : Value} {t : TypeId} {fr : Nat × Nat} (h : w.heap[b]? = some (.cells #[u, v, x] t fr)) : w.cell? ⟨b, 0, none⟩ = some u ∧ w.cell? ⟨b, 1, none⟩ = some v ∧ w.cell? ⟨b, 2, none⟩ = some x :=
  ⟨by simp [World.cell?, h], by simp [World.cell?, h], by simp [World.cell?, h]⟩
/-- what three and apart hand back -/
def ThrP (W w : World) (G k : Nat) (pk : Value) (R : List En) (CA : List Clh) (e : Ending) (w' : World) : Prop := ∃ r : Option Nat, e = .returned (pv r) ∧ RtN w' k r R ∧ InvM W G k pk CA w' ∧ Km w w'
set_option maxHeartbeats 8000000 in
theorem mapart_any (W w : World) (G k : Nat) (f : FuncId) (g : Clh → Option Nat) (cl : List Clh) (ro ra rb : Option Nat) (lo la lb : List En) (hP : PickOk f g) (hg : GOk g) (hi : InvM W G k (.func (.func f) #[] #[]) cl w) (h0 : RtN w k ro lo) (h1 : RtN w k ra la) (h2 : RtN w k rb lb) (k1 : 1 ≤ k) (k16 : k ≤ 16)
    (v0 : ∀ e ∈ lo, e.v < 2 ^ 64) (v1 : ∀ e ∈ la, e.v < 2 ^ 64) (v2 : ∀ e ∈ lb, e.v < 2 ^ 64) (hN : lo.length + la.length ≤ 200 ∧ lo.length + lb.length ≤ 200 ∧ cl.length ≤ 500) :
    Calls Tryz.prog 217 #[.pointer (some ⟨G, 0, none⟩), pv ro, pv ra, pv rb] w fun e w' => ThrP W w G k (.func (.func f) #[] #[]) (mrgL g lo la lb) (cl ++ clsL lo la lb) e w' := by
  have HP := Lib.hid hP
  have HGK := Lib.hid hg
  have HI := Lib.hid hi
  have HK := Lib.hid (And.intro k1 k16)
  have HR0 := Lib.hid h0
  have HR1 := Lib.hid h1
  have HR2 := Lib.hid h2
  have HV := Lib.hid (And.intro v0 (And.intro v1 v2))
  have HN := Lib.hid hN
  have HET := Lib.hid (And.intro h0.et (And.intro h1.et h2.et))
  obtain ⟨q0, hq0⟩ := pv_ex ro
  obtain ⟨q1, hq1⟩ := pv_ex ra
  obtain ⟨q2, hq2⟩ := pv_ex rb
  have HOF0 := Lib.hid (fun W (h : RtN W k ro lo) => of_rt W k ro lo h k1 k16)
  have HOF1 := Lib.hid (fun W (h : RtN W k ra la) => of_rt W k ra la h k1 k16)
  have HOF2 := Lib.hid (fun W (h : RtN W k rb lb) => of_rt W k rb lb h k1 k16)
  rw [hq0, hq1, hq2]
  rw [hq0] at HOF0
  rw [hq1] at HOF1
  rw [hq2] at HOF2
  clear hP hg hi k1 k16 h0 h1 h2 v0 v1 v2 hN hq0 hq1 hq2
  go_enter Tryz.func217, Tryz.ntmps217
  go_wp2_with fail
  refine wp_scope_jumpsN 0 (fun n9 a' w' => ∃ (X Y : List Ch) (L : List En) (CL : List Clh) (vx vy : Value) (t : Nat) (u1 u2 u3 u4 u5 u6 u7 u8 u9 u10 u11 u13 u15 u17 u18 u19 u20 u21 u22 u23 u24 u25 u26 u27 u28 u29 u30 u31 u32 u33 u34 u35 u36 u37 u38 u39 u40 u41 u42 u43 u44 u45 u46 u47 u48 u49 u50 u51 u52 u53 u54 u55 u56 u57 u58 u59 u60 u61 u62 u63 u64 u65 u66 u67 u68 u69 u70 u71 u72 u73 u74 u75 u76 u77 u78 u79 u80 u81 u82 u83 u84 u85 u86 u87 u88 u89 u90 u91 u92 u93 u94 u95 u96 u97 u98 u99 u100 u101 u102 u103 u104 u105 u106 u107 u108 u109 u110 u111 u112 u113 u114 u115 u116 u117 u118 u119 u120 u121 u122 u123 u124 : Value), a' = { tmps := #[.pointer (some ⟨G, 0, none⟩), u1, u2, u3, u4, u5, u6, u7, u8, u9, u10, u11, vx, u13, vy, u15, .pointer (some ⟨t, 0, none⟩), u17, u18, u19, u20, u21, u22, u23, u24, u25, u26, u27, u28, u29, u30, u31, u32, u33, u34, u35, u36, u37, u38, u39, u40, u41, u42, u43, u44, u45, u46, u47, u48, u49, u50, u51, u52, u53, u54, u55, u56, u57, u58, u59, u60, u61, u62, u63, u64, u65, u66, u67, u68, u69, u70, u71, u72, u73, u74, u75, u76, u77, u78, u79, u80, u81, u82, u83, u84, u85, u86, u87, u88, u89, u90, u91, u92, u93, u94, u95, u96, u97, u98, u99, u100, u101, u102, u103, u104, u105, u106, u107, u108, u109, u110, u111, u112, u113, u114, u115, u116, u117, u118, u119, u120, u121, u122, u123, u124], defers := [] } ∧ ApI W w k G (.func (.func f) #[] #[]) g (changesL lo la) (mrgL g lo la lb) (cl ++ clsL lo la lb) n9 w' vx vy t X Y L CL) rfl ?_ ?_
  · intro n9 a' w' hJ
    obtain ⟨X, Y, L, CL, vx, vy, t, u1, u2, u3, u4, u5, u6, u7, u8, u9, hJ⟩ := hJ
    obtain ⟨u10, u11, u13, u15, u17, u18, u19, u20, u21, u22, u23, u24, u25, u26, u27, u28, hJ⟩ := hJ
    obtain ⟨u29, u30, u31, u32, u33, u34, u35, u36, u37, u38, u39, u40, u41, u42, u43, u44, hJ⟩ := hJ
    obtain ⟨u45, u46, u47, u48, u49, u50, u51, u52, u53, u54, u55, u56, u57, u58, u59, u60, hJ⟩ := hJ
    obtain ⟨u61, u62, u63, u64, u65, u66, u67, u68, u69, u70, u71, u72, u73, u74, u75, u76, hJ⟩ := hJ
    obtain ⟨u77, u78, u79, u80, u81, u82, u83, u84, u85, u86, u87, u88, u89, u90, u91, u92, hJ⟩ := hJ
    obtain ⟨u93, u94, u95, u96, u97, u98, u99, u100, u101, u102, u103, u104, u105, u106, u107, u108, hJ⟩ := hJ
    obtain ⟨u109, u110, u111, u112, u113, u114, u115, u116, u117, u118, u119, u120, u121, u122, u123, u124, hJ⟩ := hJ
    obtain ⟨rfl, hJ⟩ := hJ
    have HJ := Lib.hid hJ
    cases Y with
    | nil =>
      obtain ⟨A9, n9', rfl⟩ := hJ.y.nilS
      obtain ⟨r, c1, hr⟩ := hJ.tr.c1
      obtain ⟨q, hq⟩ := pv_ex r
      rw [hq] at c1
      have HC1 := Lib.hid c1
      have HRR := Lib.hid (And.intro hq hr)
      clear hJ c1 hr hq
      go_wp2_with fail
      refine (troot_any _ t q HC1.out).mono ?_
      rintro e w2 ⟨rfl, hw⟩
      obtain rfl := hw.symm
      clear hw
      go_wp2_with fail
      simp only [Exit.jump]
      go_ret
      refine ⟨r, by rw [HRR.out.1]; rfl, by rw [← HJ.out.res]; exact HRR.out.2, ?_, HJ.out.km⟩
      have := HJ.out.cls
      rw [show apC (changesL lo la) [] = [] from rfl, List.append_nil] at this
      rw [← this]
      exact HJ.out.inv
    | cons c Y =>
      obtain ⟨gy, oy, ny, Ay, my, cy, rfl, hny, hny', hpy, y0, y1, y2, y3, y4, hgy, hty⟩ := hJ.y.head
      have HYR := Lib.hid (show c.p.length = k ∧ (∀ x ∈ c.p, x < 2 ^ 64) ∧ c.right = true from ⟨hJ.ry.len c (List.mem_cons_self ..), hJ.ry.ok c (List.mem_cons_self ..), hJ.ry.right c (List.mem_cons_self ..)⟩)
      have HN9 := Lib.hid (show 1 ≤ n9 by have := hJ.n; simp only [List.length_cons] at this; omega)
      have HPY0 := Lib.hid hpy
      have iy1 : ¬ (Y.length : Int) + 1 = 0 := by omega
      have iy2 : (0 : Int) < (Y.length : Int) + 1 := by omega
      have iy3 : (1 : Int) ≤ (Y.length : Int) + 1 := by omega
      have iy4 : (Y.length : Int) + 1 ≤ (ny : Int) := by omega
      have hgyl := World.block_lt_of_cell? w' _ y0
      have HGY := Lib.hid hgy
      cases X with
      | nil =>
        obtain ⟨A9, n9', rfl⟩ := hJ.x.nilS
        have HNOW := Lib.hid (show valO c.has c.new = nowV g (Od.look Ch.key [] c.key) c from rfl)
        have HCLN := Lib.hid (show CL = CL ++ (clhV (Od.look Ch.key [] c.key) c).toList from (List.append_nil CL).symm)
        obtain ⟨bC, bR, hbB⟩ := alloc2 w' (.cells #[.slice Ay my cy, .bool c.had, .bool c.has, .int .u64 (c.old : Nat), .int .u64 (c.new : Nat)] 169) (.cells #[.bool c.has, .int .u64 (c.new : Nat)] 245)
        have HPT := Lib.hid (mput_any ((w'.alloc (.cells #[.slice Ay my cy, .bool c.had, .bool c.has, .int .u64 (c.old : Nat), .int .u64 (c.new : Nat)] 169)).alloc (.cells #[.bool c.has, .int .u64 (c.new : Nat)] 245)) t k (valO c.has c.new) c.p L (.slice Ay my cy) (hJ.tr.bel hbB) (hpy.rd.below hbB) HYR.out.1 HYR.out.2.1 (fun v hv => hJ.vals HGK.out v (by rw [← HNOW.out]; exact hv)))
        rw [valO_valV HYR.out.2.2] at HPT
        have HBB := Lib.hid hbB
        clear hJ hpy hgy hbB bC bR
        rcases Decidable.em (ny = 1) with hn1 | hn1
        · subst hn1
          obtain rfl : Y = [] := List.eq_nil_of_length_eq_zero (by omega)
          rw [if_pos rfl] at hty
          have HY3 := Lib.hid (show ChV w' (.slice (some ⟨gy, oy, none⟩) 0 0) [] from hty)
          clear hty
          go_wp2_with fail
          refine HPT.out.mono ?_
          rintro e w8 ⟨t8, rfl, ht8, hb8⟩
          have HF := Lib.hid (HJ.out.put ((Km.of HBB.out).trans (Km.of hb8)) HY3.out HNOW.out HCLN.out ht8 ((HJ.out.inv.below HBB.out).below hb8))
          clear ht8 hb8
          go_wp2_with fail
          go_step3
          exact ⟨rfl, n9 - 1, by have := HN9.out; omega, _, _, _, _, _, _, _, _, _, _, _, _, _, _, _, _, _, _, _, _, _, _, _, _, _, _, _, _, _, _, _, _, _, _, _, _, _, _, _, _, _, _, _, _, _, _, _, _, _, _, _, _, _, _, _, _, _, _, _, _, _, _, _, _, _, _, _, _, _, _, _, _, _, _, _, _, _, _, _, _, _, _, _, _, _, _, _, _, _, _, _, _, _, _, _, _, _, _, _, _, _, _, _, _, _, _, _, _, _, _, _, _, _, _, _, _, _, _, _, _, _, _, _, _, _, _, _, _, rfl, HF.out⟩
        · rw [if_neg hn1] at hty
          have HY3 := Lib.hid hty
          clear hty
          go_wp2_with fail
          refine HPT.out.mono ?_
          rintro e w8 ⟨t8, rfl, ht8, hb8⟩
          have HF := Lib.hid (HJ.out.put ((Km.of HBB.out).trans (Km.of hb8)) HY3.out HNOW.out HCLN.out ht8 ((HJ.out.inv.below HBB.out).below hb8))
          clear ht8 hb8
          go_wp2_with fail
          go_step3
          exact ⟨rfl, n9 - 1, by have := HN9.out; omega, _, _, _, _, _, _, _, _, _, _, _, _, _, _, _, _, _, _, _, _, _, _, _, _, _, _, _, _, _, _, _, _, _, _, _, _, _, _, _, _, _, _, _, _, _, _, _, _, _, _, _, _, _, _, _, _, _, _, _, _, _, _, _, _, _, _, _, _, _, _, _, _, _, _, _, _, _, _, _, _, _, _, _, _, _, _, _, _, _, _, _, _, _, _, _, _, _, _, _, _, _, _, _, _, _, _, _, _, _, _, _, _, _, _, _, _, _, _, _, _, _, _, _, _, _, _, _, _, rfl, HF.out⟩
      | cons d X =>
        obtain ⟨gx, ox, nx, Ax, mx, cx, rfl, hnx, hnx', hpx, x0, x1, x2, x3, x4, hgx, htx⟩ := hJ.x.head
        have HXR := Lib.hid (show d.p.length = k ∧ (∀ x ∈ d.p, x < 2 ^ 64) ∧ d.right = true from ⟨hJ.rx.len d (List.mem_cons_self ..), hJ.rx.ok d (List.mem_cons_self ..), hJ.rx.right d (List.mem_cons_self ..)⟩)
        have HX2 := Lib.hid htx
        have HPX0 := Lib.hid hpx
        have ix2 : (0 : Int) < (X.length : Int) + 1 := by omega
        have ix3 : (1 : Int) ≤ (X.length : Int) + 1 := by omega
        have ix4 : (X.length : Int) + 1 ≤ (nx : Int) := by omega
        have hgxl := World.block_lt_of_cell? w' _ x0
        have HGX := Lib.hid hgx
        have HCM := Lib.hid (fun W' (h : Below w'.heap.size w' W') => zCmp_any d.p c.p (.slice Ax mx cx) (.slice Ay my cy) W' (hpx.rd.below h) (hpy.rd.below h) (by rw [HXR.out.1, HYR.out.1]) (by rw [HXR.out.1]; exact HK.out.1) (by rw [HXR.out.1]; exact HK.out.2) HXR.out.2.1 HYR.out.2.1)
        clear hJ hpy hgy hpx hgx htx
        go_wp2_with fail
        go_quiet ((exact Calls.quiet_of_same (HCM.out _ (drewN_below _ _))))
        generalize hwq : w'.drewN nq = wq
        have hbq : Below w'.heap.size w' wq := hwq ▸ drewN_below _ _
        clear hwq
        have HBQ := Lib.hid hbq
        have HJq := Lib.hid (HJ.out.step hbq)
        have HCq := Lib.hid (fun W' (h : Below wq.heap.size wq W') => HCM.out W' (hbq.trans (h.mono hbq.size)))
        replace y0 := Below.keeps hbq _ _ y0
        replace y1 := Below.keeps hbq _ _ y1
        replace y2 := Below.keeps hbq _ _ y2
        replace y3 := Below.keeps hbq _ _ y3
        replace y4 := Below.keeps hbq _ _ y4
        replace hgyl := Nat.lt_of_lt_of_le hgyl hbq.size
        replace x0 := Below.keeps hbq _ _ x0
        replace x1 := Below.keeps hbq _ _ x1
        replace x2 := Below.keeps hbq _ _ x2
        replace x3 := Below.keeps hbq _ _ x3
        replace x4 := Below.keeps hbq _ _ x4
        replace hgxl := Nat.lt_of_lt_of_le hgxl hbq.size
        clear hbq HCM
        obtain ⟨cm, hcm⟩ : ∃ z, Zb.cmp d.p c.p = z := ⟨_, rfl⟩
        rw [hcm] at HCq ⊢
        have HCME := Lib.hid hcm
        clear hcm
        by_cases hneg : cm < 0
        · have hd : decide (cm < 0) = true := by simp [hneg]
          have HNG := Lib.hid (show Zb.cmp d.p c.p < 0 by rw [HCME.out]; exact hneg)
          clear hneg
          rcases Decidable.em (nx = 1) with hn1 | hn1
          · subst hn1
            obtain rfl : X = [] := List.eq_nil_of_length_eq_zero (by omega)
            have h9 := HX2.out
            rw [if_pos rfl] at h9
            have HX3 := Lib.hid (show ChV wq (.slice (some ⟨gx, ox, none⟩) 0 0) [] from (Km.of HBQ.out).chV h9)
            clear h9
            go_wp2_with fail
            go_step3
            exact ⟨rfl, n9 - 1, by have := HN9.out; omega, _, _, _, _, _, _, _, _, _, _, _, _, _, _, _, _, _, _, _, _, _, _, _, _, _, _, _, _, _, _, _, _, _, _, _, _, _, _, _, _, _, _, _, _, _, _, _, _, _, _, _, _, _, _, _, _, _, _, _, _, _, _, _, _, _, _, _, _, _, _, _, _, _, _, _, _, _, _, _, _, _, _, _, _, _, _, _, _, _, _, _, _, _, _, _, _, _, _, _, _, _, _, _, _, _, _, _, _, _, _, _, _, _, _, _, _, _, _, _, _, _, _, _, _, _, _, _, _, rfl, HJq.out.pass HX3.out HNG.out⟩
          · have h9 := HX2.out
            rw [if_neg hn1] at h9
            have HX3 := Lib.hid ((Km.of HBQ.out).chV h9)
            clear h9
            go_wp2_with fail
            go_step3
            exact ⟨rfl, n9 - 1, by have := HN9.out; omega, _, _, _, _, _, _, _, _, _, _, _, _, _, _, _, _, _, _, _, _, _, _, _, _, _, _, _, _, _, _, _, _, _, _, _, _, _, _, _, _, _, _, _, _, _, _, _, _, _, _, _, _, _, _, _, _, _, _, _, _, _, _, _, _, _, _, _, _, _, _, _, _, _, _, _, _, _, _, _, _, _, _, _, _, _, _, _, _, _, _, _, _, _, _, _, _, _, _, _, _, _, _, _, _, _, _, _, _, _, _, _, _, _, _, _, _, _, _, _, _, _, _, _, _, _, _, _, _, rfl, HJq.out.pass HX3.out HNG.out⟩
        · have hd : decide (cm < 0) = false := by simp [hneg]
          have HNG := Lib.hid hneg
          clear hneg
          rcases Decidable.em (ny = 1) with hn1 | hn1
          · subst hn1
            obtain rfl : Y = [] := List.eq_nil_of_length_eq_zero (by omega)
            rw [if_pos rfl] at hty
            have HY3 := Lib.hid (show ChV w' (.slice (some ⟨gy, oy, none⟩) 0 0) [] from hty)
            clear hty
            go_wp2_with fail
            go_quiet ((exact Calls.quiet_of_same (HCq.out _ (by repeat (first | exact Below.refl _ _ | (refine Below.drew ?_) | (refine below_drewN' ?_ _) | (refine below_alloc' ?_ _) | (refine Below.setCell ?_ (by first | exact Nat.le_refl _ | (simp; done) | (simp; omega)) _))))))
            have hbD : Below wq.heap.size wq (((wq.alloc (.cells #[.slice Ay my cy, .bool c.had, .bool c.has, .int .u64 (c.old : Nat), .int .u64 (c.new : Nat)] 169)).alloc (.cells #[.bool c.has, .int .u64 (c.new : Nat)] 245)).drewN nq) := (by repeat (first | exact Below.refl _ _ | (refine Below.drew ?_) | (refine below_drewN' ?_ _) | (refine below_alloc' ?_ _) | (refine Below.setCell ?_ (by first | exact Nat.le_refl _ | (simp; done) | (simp; omega)) _)))
            obtain ⟨bC, bR, _⟩ := alloc2 wq (.cells #[.slice Ay my cy, .bool c.had, .bool c.has, .int .u64 (c.old : Nat), .int .u64 (c.new : Nat)] 169) (.cells #[.bool c.has, .int .u64 (c.new : Nat)] 245)
            replace bC := ((drewN_below ((wq.alloc (.cells #[.slice Ay my cy, .bool c.had, .bool c.has, .int .u64 (c.old : Nat), .int .u64 (c.new : Nat)] 169)).alloc (.cells #[.bool c.has, .int .u64 (c.new : Nat)] 245)) nq).block _ (lt_of_block bC)).trans bC
            replace bR := ((drewN_below ((wq.alloc (.cells #[.slice Ay my cy, .bool c.had, .bool c.has, .int .u64 (c.old : Nat), .int .u64 (c.new : Nat)] 169)).alloc (.cells #[.bool c.has, .int .u64 (c.new : Nat)] 245)) nq).block _ (lt_of_block bR)).trans bR
            obtain ⟨C, hC⟩ : ∃ C, wq.heap.size = C := ⟨_, rfl⟩
            have HRW := Lib.hid (show w'.heap.size ≤ C + 1 by have := HBQ.out.size; omega)
            rw [hC] at bC bR ⊢
            have HBD := Lib.hid hbD
            have HGD := Lib.hid (show ∃ cur fr, (((wq.alloc (.cells #[.slice Ay my cy, .bool c.had, .bool c.has, .int .u64 (c.old : Nat), .int .u64 (c.new : Nat)] 169)).alloc (.cells #[.bool c.has, .int .u64 (c.new : Nat)] 245)).drewN nq).heap[gx]? = some (Obj.cells cur 169 fr) from let ⟨cur, fr, h⟩ := HGX.out; ⟨cur, fr, (hbD.block _ hgxl).trans ((HBQ.out.block _ (lt_of_block h)).trans h)⟩)
            have HKD := Lib.hid ((Km.of HBQ.out).trans (Km.of hbD))
            replace x0 := Below.keeps hbD _ _ x0
            replace x1 := Below.keeps hbD _ _ x1
            replace x2 := Below.keeps hbD _ _ x2
            replace x3 := Below.keeps hbD _ _ x3
            replace x4 := Below.keeps hbD _ _ x4
            have hlx := Nat.lt_of_lt_of_le hgxl hbD.size
            clear hC hbD y0 y1 y2 y3 y4 hgyl hgxl
            generalize (((wq.alloc (.cells #[.slice Ay my cy, .bool c.had, .bool c.has, .int .u64 (c.old : Nat), .int .u64 (c.new : Nat)] 169)).alloc (.cells #[.bool c.has, .int .u64 (c.new : Nat)] 245)).drewN nq) = wD at *
            obtain ⟨R, hR⟩ : ∃ R, C + 1 = R := ⟨_, rfl⟩
            rw [hR] at bR HRW ⊢
            have HCD := Lib.hid bC
            have HRD := Lib.hid bR
            obtain ⟨y0, y1, y2, y3, y4⟩ := cells5_of bC
            obtain ⟨s0, s1, _⟩ := cells_of_two2 bR
            have hlc := lt_of_block bC
            have hlr := lt_of_block bR
            clear bC bR hR
            by_cases hz : cm = 0
            · subst hz
              have hkey : d.key = c.key := (cmp_zero _ _).1 HCME.out
              have hlook : Od.look Ch.key (d :: X) c.key = some d := by rw [Od.look_cons, if_pos hkey]
              have HBO := Lib.hid (fun W' (h : Below wD.heap.size wD W') => mboth_any W W' G k f g CL d c Ax Ay mx cx my cy HP.out ((HJq.out.inv.below HBD.out).below h) (((HPX0.out.below HBQ.out).below HBD.out).below h) (by have := HJ.out.cl; omega) HXR.out.2.2 HYR.out.2.2)
              have HNOW := Lib.hid (show nowV g (some d) c = nowV g (Od.look Ch.key (d :: X) c.key) c by rw [hlook])
              have HCLN := Lib.hid (show CL ++ (clhV (some d) c).toList = CL ++ (clhV (Od.look Ch.key (d :: X) c.key) c).toList by rw [hlook])
              clear hkey hlook
              obtain ⟨curx, frx, hgX⟩ := HGD.out
              have HGXD := Lib.hid hgX
              clear hgX
              go_wp2_with fail
              refine wp_region_steps 5 (fun wz => Below wD.heap.size wD wz) (fun wz => Km wD wz) (fun q wa wb => match q with | 5 => InvM W G k (.func (.func f) #[] #[]) (CL ++ (clhV (some d) c).toList) wb ∧ Km wa wb | _ => wb = wa) 6 [fun z9 _ => z9 = .pointer (some ⟨G, 0, none⟩),
                fun z9 _ => z9 = .slice (some ⟨gx, ox, none⟩) (X.length + 1) nx,
                fun z9 _ => z9 = .pointer (some ⟨gx, ox, none⟩),
                fun z9 _ => z9 = .agg #[.slice Ax mx cx, .bool d.had, .bool d.has, .int .u64 (d.old : Nat), .int .u64 (d.new : Nat)],
                fun z9 _ => z9 = .agg #[.slice Ay my cy, .bool c.had, .bool c.has, .int .u64 (c.old : Nat), .int .u64 (c.new : Nat)],
                fun v9 w9 => v9 = valV (nowV g (some d) c) ∧ InvM W G k (.func (.func f) #[] #[]) (CL ++ (clhV (some d) c).toList) w9]
                (by kernel_rfl) (by kernel_rfl) (by kernel_rfl) (by kernel_rfl) (drewN_below wD 1) (Km.of (drewN_below wD 1)) ?_ ?_ ?_ ?_ ?_
              · intro jq wa wb hj hne h hb
                match jq, hj, hne with
                | 0, _, hne =>
                obtain rfl : wb = wa := hb
                exact h
                | 1, _, hne =>
                obtain rfl : wb = wa := hb
                exact h
                | 2, _, hne =>
                obtain rfl : wb = wa := hb
                exact h
                | 3, _, hne =>
                obtain rfl : wb = wa := hb
                exact h
                | 4, _, hne =>
                obtain rfl : wb = wa := hb
                exact h
                | 5, _, hne => exact absurd rfl hne
              · intro jq wa wb hj h hb
                match jq, hj with
                | 0, _ =>
                obtain rfl : wb = wa := hb
                exact h
                | 1, _ =>
                obtain rfl : wb = wa := hb
                exact h
                | 2, _ =>
                obtain rfl : wb = wa := hb
                exact h
                | 3, _ =>
                obtain rfl : wb = wa := hb
                exact h
                | 4, _ =>
                obtain rfl : wb = wa := hb
                exact h
                | 5, _ =>
                have hb : InvM W G k (.func (.func f) #[] #[]) (CL ++ (clhV (some d) c).toList) wb ∧ Km wa wb := hb
                exact h.trans hb.2
              · intro iq jq v wa wb hi hj hne han h hb
                match iq, jq, hi, hj, hne, han with
                | 0, 0, _, _, hne, han => exact absurd rfl hne
                | 0, 1, _, _, hne, han => 
                obtain rfl : wb = wa := hb
                exact h
                | 0, 2, _, _, hne, han => 
                obtain rfl : wb = wa := hb
                exact h
                | 0, 3, _, _, hne, han => 
                obtain rfl : wb = wa := hb
                exact h
                | 0, 4, _, _, hne, han => 
                obtain rfl : wb = wa := hb
                exact h
                | 0, 5, _, _, hne, han => exact h
                | 1, 0, _, _, hne, han => 
                obtain rfl : wb = wa := hb
                exact h
                | 1, 1, _, _, hne, han => exact absurd rfl hne
                | 1, 2, _, _, hne, han => 
                obtain rfl : wb = wa := hb
                exact h
                | 1, 3, _, _, hne, han => 
                obtain rfl : wb = wa := hb
                exact h
                | 1, 4, _, _, hne, han => 
                obtain rfl : wb = wa := hb
                exact h
                | 1, 5, _, _, hne, han => exact h
                | 2, 0, _, _, hne, han => 
                obtain rfl : wb = wa := hb
                exact h
                | 2, 1, _, _, hne, han => 
                obtain rfl : wb = wa := hb
                exact h
                | 2, 2, _, _, hne, han => exact absurd rfl hne
                | 2, 3, _, _, hne, han => 
                obtain rfl : wb = wa := hb
                exact h
                | 2, 4, _, _, hne, han => 
                obtain rfl : wb = wa := hb
                exact h
                | 2, 5, _, _, hne, han => exact h
                | 3, 0, _, _, hne, han => 
                obtain rfl : wb = wa := hb
                exact h
                | 3, 1, _, _, hne, han => 
                obtain rfl : wb = wa := hb
                exact h
                | 3, 2, _, _, hne, han => 
                obtain rfl : wb = wa := hb
                exact h
                | 3, 3, _, _, hne, han => exact absurd rfl hne
                | 3, 4, _, _, hne, han => 
                obtain rfl : wb = wa := hb
                exact h
                | 3, 5, _, _, hne, han => exact h
                | 4, 0, _, _, hne, han => 
                obtain rfl : wb = wa := hb
                exact h
                | 4, 1, _, _, hne, han => 
                obtain rfl : wb = wa := hb
                exact h
                | 4, 2, _, _, hne, han => 
                obtain rfl : wb = wa := hb
                exact h
                | 4, 3, _, _, hne, han => 
                obtain rfl : wb = wa := hb
                exact h
                | 4, 4, _, _, hne, han => exact absurd rfl hne
                | 4, 5, _, _, hne, han => exact h
                | 5, 0, _, _, hne, han => 
                obtain rfl : wb = wa := hb
                exact h
                | 5, 1, _, _, hne, han => 
                obtain rfl : wb = wa := hb
                exact h
                | 5, 2, _, _, hne, han => 
                obtain rfl : wb = wa := hb
                exact h
                | 5, 3, _, _, hne, han => 
                obtain rfl : wb = wa := hb
                exact h
                | 5, 4, _, _, hne, han => 
                obtain rfl : wb = wa := hb
                exact h
                | 5, 5, _, _, hne, han => exact absurd rfl hne
              · intro iq o hi ho
                match iq, hi with
                | 0, _ =>
                obtain rfl := Option.some.inj ho
                intro a1 w1 K hk hK
                have e0 : a1.tmps.getD 0 undef = .pointer (some ⟨G, 0, none⟩) := hk.same 0 (by simp)
                simp [Region.wanted, Oper.wp, Act.eval, go_sem, e0, ix2, ix3, ix4, hlx, hlc]
                exact hK _ _ rfl rfl
                | 1, _ =>
                obtain rfl := Option.some.inj ho
                intro a1 w1 K hk hK
                have e12 : a1.tmps.getD 12 undef = .slice (some ⟨gx, ox, none⟩) (X.length + 1) nx := hk.same 12 (by simp)
                simp [Region.wanted, Oper.wp, Act.eval, go_sem, e12, ix2, ix3, ix4, hlx, hlc]
                exact hK _ _ rfl rfl
                | 2, _ =>
                obtain rfl := Option.some.inj ho
                intro a1 w1 K hk hK
                have d115 : a1.tmps.getD 115 undef = .slice (some ⟨gx, ox, none⟩) (X.length + 1) nx := hk.deps ⟨1, .data⟩ (by simp) rfl _ _ rfl rfl
                simp [Region.wanted, Oper.wp, Act.eval, go_sem, d115, ix2, ix3, ix4, hlx, hlc]
                exact hK _ _ rfl rfl
                | 3, _ =>
                obtain rfl := Option.some.inj ho
                intro a1 w1 K hk hK
                have d116 : a1.tmps.getD 116 undef = .pointer (some ⟨gx, ox, none⟩) := hk.deps ⟨2, .data⟩ (by simp) rfl _ _ rfl rfl
                have c0 : w1.cell? ⟨gx, ox, none⟩ = some (.slice Ax mx cx) := hk.p1.cell HGXD.out (by decide) x0
                have c1 : w1.cell? ⟨gx, ox + 1, none⟩ = some (.bool d.had) := hk.p1.cell HGXD.out (by decide) x1
                have c2 : w1.cell? ⟨gx, ox + 2, none⟩ = some (.bool d.has) := hk.p1.cell HGXD.out (by decide) x2
                have c3 : w1.cell? ⟨gx, ox + 3, none⟩ = some (.int .u64 (d.old : Nat)) := hk.p1.cell HGXD.out (by decide) x3
                have c4 : w1.cell? ⟨gx, ox + 4, none⟩ = some (.int .u64 (d.new : Nat)) := hk.p1.cell HGXD.out (by decide) x4
                have c5 : w1.cell? ⟨C, 0, none⟩ = some (.slice Ay my cy) := hk.p1.cell HCD.out (by decide) y0
                have c6 : w1.cell? ⟨C, 1, none⟩ = some (.bool c.had) := hk.p1.cell HCD.out (by decide) y1
                have c7 : w1.cell? ⟨C, 2, none⟩ = some (.bool c.has) := hk.p1.cell HCD.out (by decide) y2
                have c8 : w1.cell? ⟨C, 3, none⟩ = some (.int .u64 (c.old : Nat)) := hk.p1.cell HCD.out (by decide) y3
                have c9 : w1.cell? ⟨C, 4, none⟩ = some (.int .u64 (c.new : Nat)) := hk.p1.cell HCD.out (by decide) y4
                simp [Region.wanted, Oper.wp, Act.eval, go_sem, d116, c0, c1, c2, c3, c4, c5, c6, c7, c8, c9, ix2, ix3, ix4, hlx, hlc]
                exact hK _ _ rfl rfl
                | 4, _ =>
                obtain rfl := Option.some.inj ho
                intro a1 w1 K hk hK
                have e19 : a1.tmps.getD 19 undef = .pointer (some ⟨C, 0, none⟩) := hk.same 19 (by simp)
                have c0 : w1.cell? ⟨gx, ox, none⟩ = some (.slice Ax mx cx) := hk.p1.cell HGXD.out (by decide) x0
                have c1 : w1.cell? ⟨gx, ox + 1, none⟩ = some (.bool d.had) := hk.p1.cell HGXD.out (by decide) x1
                have c2 : w1.cell? ⟨gx, ox + 2, none⟩ = some (.bool d.has) := hk.p1.cell HGXD.out (by decide) x2
                have c3 : w1.cell? ⟨gx, ox + 3, none⟩ = some (.int .u64 (d.old : Nat)) := hk.p1.cell HGXD.out (by decide) x3
                have c4 : w1.cell? ⟨gx, ox + 4, none⟩ = some (.int .u64 (d.new : Nat)) := hk.p1.cell HGXD.out (by decide) x4
                have c5 : w1.cell? ⟨C, 0, none⟩ = some (.slice Ay my cy) := hk.p1.cell HCD.out (by decide) y0
                have c6 : w1.cell? ⟨C, 1, none⟩ = some (.bool c.had) := hk.p1.cell HCD.out (by decide) y1
                have c7 : w1.cell? ⟨C, 2, none⟩ = some (.bool c.has) := hk.p1.cell HCD.out (by decide) y2
                have c8 : w1.cell? ⟨C, 3, none⟩ = some (.int .u64 (c.old : Nat)) := hk.p1.cell HCD.out (by decide) y3
                have c9 : w1.cell? ⟨C, 4, none⟩ = some (.int .u64 (c.new : Nat)) := hk.p1.cell HCD.out (by decide) y4
                simp [Region.wanted, Oper.wp, Act.eval, go_sem, e19, c0, c1, c2, c3, c4, c5, c6, c7, c8, c9, ix2, ix3, ix4, hlx, hlc]
                exact hK _ _ rfl rfl
                | 5, _ =>
                obtain rfl := Option.some.inj ho
                intro a1 w1 K hk hK
                have d114 : a1.tmps.getD 114 undef = .pointer (some ⟨G, 0, none⟩) := hk.deps ⟨0, .data⟩ (by simp) rfl _ _ rfl rfl
                have d117 : a1.tmps.getD 117 undef = .agg #[.slice Ax mx cx, .bool d.had, .bool d.has, .int .u64 (d.old : Nat), .int .u64 (d.new : Nat)] := hk.deps ⟨3, .data⟩ (by simp) rfl _ _ rfl rfl
                have d118 : a1.tmps.getD 118 undef = .agg #[.slice Ay my cy, .bool c.had, .bool c.has, .int .u64 (c.old : Nat), .int .u64 (c.new : Nat)] := hk.deps ⟨4, .data⟩ (by simp) rfl _ _ rfl rfl
                simp [Region.wanted, Oper.wp, Act.eval, go_sem, d114, d117, d118, ix2, ix3, ix4, hlx, hlc]
                refine (HBO.out w1 (hk.p0 (by decide))).mono ?_
                rintro e w2 ⟨rfl, hi9, hk9⟩
                exact hK _ _ ⟨hi9, hk9⟩ ⟨rfl, hi9⟩
              · intro vs w3 hl hp3 hv
                match vs, hl with
                | [v0, v1, v2, v3, v4, v5], _ =>
                obtain rfl : v0 = .pointer (some ⟨G, 0, none⟩) := hv 0 (by omega)
                obtain rfl : v1 = .slice (some ⟨gx, ox, none⟩) (X.length + 1) nx := hv 1 (by omega)
                obtain rfl : v2 = .pointer (some ⟨gx, ox, none⟩) := hv 2 (by omega)
                obtain rfl : v3 = .agg #[.slice Ax mx cx, .bool d.had, .bool d.has, .int .u64 (d.old : Nat), .int .u64 (d.new : Nat)] := hv 3 (by omega)
                obtain rfl : v4 = .agg #[.slice Ay my cy, .bool c.had, .bool c.has, .int .u64 (c.old : Nat), .int .u64 (c.new : Nat)] := hv 4 (by omega)
                have q5 : v5 = valV (nowV g (some d) c) ∧ InvM W G k (.func (.func f) #[] #[]) (CL ++ (clhV (some d) c).toList) w3 := hv 5 (by omega)
                clear hv
                simp only [putAll, List.take_succ_cons, List.take_zero, List.drop_succ_cons, List.drop_zero, Act.put, List.setIfInBounds_toArray, List.set_cons_succ, List.set_cons_zero]
                obtain ⟨e5, hi5⟩ := q5
                obtain ⟨x, hx⟩ : ∃ x, nowV g (some d) c = x := ⟨_, rfl⟩
                rw [hx] at e5 HNOW
                unfold valV at e5
                subst e5
                have hR5 := hp3.keep _ _ _ _ HRD.out (by decide)
                have hC5 := hp3.keep _ _ _ _ HCD.out (by decide)
                obtain ⟨z0, z1, z2, z3, z4⟩ := cells5_of hC5
                obtain ⟨p0, p1, _⟩ := cells_of_two2 hR5
                have pf : ∀ i, w3.frozen? ⟨R, i, none⟩ = false := fun i => by simp [World.frozen?, hR5]
                have hl5 := lt_of_block hR5
                have hm5 := lt_of_block hC5
                have hne1 : ¬ R = C := ne_type hR5 hC5 (by decide)
                have hne2 : ¬ C = R := fun e => hne1 e.symm
                have hk9 := ((HKD.out.trans hp3).setNew (j := 0) (x := .bool x.isSome) HRW.out).setNew (j := 1) (x := .int .u64 ((x.getD 0 : Nat) : Int)) HRW.out
                have hW9 : W.heap.size ≤ R := Nat.le_trans HJ.out.inv.bel.size HRW.out
                have HI9 := Lib.hid ((hi5.setNew (j := 0) (x := .bool x.isSome) hR5 (by decide) (by decide) (by decide) hW9).setNew (j := 1) (x := .int .u64 ((x.getD 0 : Nat) : Int)) (three_setCell hR5) (by decide) (by decide) (by decide) hW9)
                have HK9 := Lib.hid hk9
                have HPT := Lib.hid (mput_any ((w3.setCell ⟨R, 0, none⟩ (.bool x.isSome)).setCell ⟨R, 1, none⟩ (.int .u64 ((x.getD 0 : Nat) : Int))) t k x c.p L (.slice Ay my cy) (hk9.trR HJ.out.tr) (hk9.ptNew HPY0.out).rd HYR.out.1 HYR.out.2.1 (fun v hv => HJ.out.vals HGK.out v (by rw [← HNOW.out]; exact hv)))
                unfold valV at HPT
                clear hx hp3 hi5 hR5 hC5 hk9 hW9 s0 s1 y0 y1 y2 y3 y4 x0 x1 x2 x3 x4 hlc hlr hlx
                go_wp2_with fail
                refine HPT.out.mono ?_
                rintro e w8 ⟨t8, rfl, ht8, hb8⟩
                have HF := Lib.hid (HJ.out.put (HK9.out.trans (Km.of hb8)) HY3.out HNOW.out HCLN.out ht8 (HI9.out.below hb8))
                clear ht8 hb8
                go_wp2_with fail
                go_step3
                exact ⟨rfl, n9 - 1, by have := HN9.out; omega, _, _, _, _, _, _, _, _, _, _, _, _, _, _, _, _, _, _, _, _, _, _, _, _, _, _, _, _, _, _, _, _, _, _, _, _, _, _, _, _, _, _, _, _, _, _, _, _, _, _, _, _, _, _, _, _, _, _, _, _, _, _, _, _, _, _, _, _, _, _, _, _, _, _, _, _, _, _, _, _, _, _, _, _, _, _, _, _, _, _, _, _, _, _, _, _, _, _, _, _, _, _, _, _, _, _, _, _, _, _, _, _, _, _, _, _, _, _, _, _, _, _, _, _, _, _, _, _, rfl, HF.out⟩
            · have hkey : c.key < d.key := (cmp_pos _ _).1 (by rw [HCME.out]; have := HNG.out; omega)
              have hlook : Od.look Ch.key (d :: X) c.key = none := by
                rw [Od.look_cons, if_neg (by omega)]
                exact Od.look_eq_none (key := Ch.key) fun e he => by have := HJ.out.rx.asc.head e he; omega
              have HNOW := Lib.hid (show valO c.has c.new = nowV g (Od.look Ch.key (d :: X) c.key) c by rw [hlook]; rfl)
              have HCLN := Lib.hid (show CL = CL ++ (clhV (Od.look Ch.key (d :: X) c.key) c).toList by rw [hlook]; exact (List.append_nil CL).symm)
              have HPT := Lib.hid (mput_any wD t k (valO c.has c.new) c.p L (.slice Ay my cy) (HJq.out.tr.bel HBD.out) (((HPY0.out.below HBQ.out).below HBD.out).rd) HYR.out.1 HYR.out.2.1 (fun v hv => HJ.out.vals HGK.out v (by rw [← HNOW.out]; exact hv)))
              rw [valO_valV HYR.out.2.2] at HPT
              have hz' : (cm == 0) = false := by simp [hz]
              clear hkey hlook
              go_wp2_with fail
              refine HPT.out.mono ?_
              rintro e w8 ⟨t8, rfl, ht8, hb8⟩
              have HF := Lib.hid (HJ.out.put (HKD.out.trans (Km.of hb8)) HY3.out HNOW.out HCLN.out ht8 ((HJq.out.inv.below HBD.out).below hb8))
              clear ht8 hb8
              go_wp2_with fail
              go_step3
              exact ⟨rfl, n9 - 1, by have := HN9.out; omega, _, _, _, _, _, _, _, _, _, _, _, _, _, _, _, _, _, _, _, _, _, _, _, _, _, _, _, _, _, _, _, _, _, _, _, _, _, _, _, _, _, _, _, _, _, _, _, _, _, _, _, _, _, _, _, _, _, _, _, _, _, _, _, _, _, _, _, _, _, _, _, _, _, _, _, _, _, _, _, _, _, _, _, _, _, _, _, _, _, _, _, _, _, _, _, _, _, _, _, _, _, _, _, _, _, _, _, _, _, _, _, _, _, _, _, _, _, _, _, _, _, _, _, _, _, _, _, _, rfl, HF.out⟩
          · rw [if_neg hn1] at hty
            have HY3 := Lib.hid hty
            clear hty
            go_wp2_with fail
            go_quiet ((exact Calls.quiet_of_same (HCq.out _ (by repeat (first | exact Below.refl _ _ | (refine Below.drew ?_) | (refine below_drewN' ?_ _) | (refine below_alloc' ?_ _) | (refine Below.setCell ?_ (by first | exact Nat.le_refl _ | (simp; done) | (simp; omega)) _))))))
            have hbD : Below wq.heap.size wq (((wq.alloc (.cells #[.slice Ay my cy, .bool c.had, .bool c.has, .int .u64 (c.old : Nat), .int .u64 (c.new : Nat)] 169)).alloc (.cells #[.bool c.has, .int .u64 (c.new : Nat)] 245)).drewN nq) := (by repeat (first | exact Below.refl _ _ | (refine Below.drew ?_) | (refine below_drewN' ?_ _) | (refine below_alloc' ?_ _) | (refine Below.setCell ?_ (by first | exact Nat.le_refl _ | (simp; done) | (simp; omega)) _)))
            obtain ⟨bC, bR, _⟩ := alloc2 wq (.cells #[.slice Ay my cy, .bool c.had, .bool c.has, .int .u64 (c.old : Nat), .int .u64 (c.new : Nat)] 169) (.cells #[.bool c.has, .int .u64 (c.new : Nat)] 245)
            replace bC := ((drewN_below ((wq.alloc (.cells #[.slice Ay my cy, .bool c.had, .bool c.has, .int .u64 (c.old : Nat), .int .u64 (c.new : Nat)] 169)).alloc (.cells #[.bool c.has, .int .u64 (c.new : Nat)] 245)) nq).block _ (lt_of_block bC)).trans bC
            replace bR := ((drewN_below ((wq.alloc (.cells #[.slice Ay my cy, .bool c.had, .bool c.has, .int .u64 (c.old : Nat), .int .u64 (c.new : Nat)] 169)).alloc (.cells #[.bool c.has, .int .u64 (c.new : Nat)] 245)) nq).block _ (lt_of_block bR)).trans bR
            obtain ⟨C, hC⟩ : ∃ C, wq.heap.size = C := ⟨_, rfl⟩
            have HRW := Lib.hid (show w'.heap.size ≤ C + 1 by have := HBQ.out.size; omega)
            rw [hC] at bC bR ⊢
            have HBD := Lib.hid hbD
            have HGD := Lib.hid (show ∃ cur fr, (((wq.alloc (.cells #[.slice Ay my cy, .bool c.had, .bool c.has, .int .u64 (c.old : Nat), .int .u64 (c.new : Nat)] 169)).alloc (.cells #[.bool c.has, .int .u64 (c.new : Nat)] 245)).drewN nq).heap[gx]? = some (Obj.cells cur 169 fr) from let ⟨cur, fr, h⟩ := HGX.out; ⟨cur, fr, (hbD.block _ hgxl).trans ((HBQ.out.block _ (lt_of_block h)).trans h)⟩)
            have HKD := Lib.hid ((Km.of HBQ.out).trans (Km.of hbD))
            replace x0 := Below.keeps hbD _ _ x0
            replace x1 := Below.keeps hbD _ _ x1
            replace x2 := Below.keeps hbD _ _ x2
            replace x3 := Below.keeps hbD _ _ x3
            replace x4 := Below.keeps hbD _ _ x4
            have hlx := Nat.lt_of_lt_of_le hgxl hbD.size
            clear hC hbD y0 y1 y2 y3 y4 hgyl hgxl
            generalize (((wq.alloc (.cells #[.slice Ay my cy, .bool c.had, .bool c.has, .int .u64 (c.old : Nat), .int .u64 (c.new : Nat)] 169)).alloc (.cells #[.bool c.has, .int .u64 (c.new : Nat)] 245)).drewN nq) = wD at *
            obtain ⟨R, hR⟩ : ∃ R, C + 1 = R := ⟨_, rfl⟩
            rw [hR] at bR HRW ⊢
            have HCD := Lib.hid bC
            have HRD := Lib.hid bR
            obtain ⟨y0, y1, y2, y3, y4⟩ := cells5_of bC
            obtain ⟨s0, s1, _⟩ := cells_of_two2 bR
            have hlc := lt_of_block bC
            have hlr := lt_of_block bR
            clear bC bR hR
            by_cases hz : cm = 0
            · subst hz
              have hkey : d.key = c.key := (cmp_zero _ _).1 HCME.out
              have hlook : Od.look Ch.key (d :: X) c.key = some d := by rw [Od.look_cons, if_pos hkey]
              have HBO := Lib.hid (fun W' (h : Below wD.heap.size wD W') => mboth_any W W' G k f g CL d c Ax Ay mx cx my cy HP.out ((HJq.out.inv.below HBD.out).below h) (((HPX0.out.below HBQ.out).below HBD.out).below h) (by have := HJ.out.cl; omega) HXR.out.2.2 HYR.out.2.2)
              have HNOW := Lib.hid (show nowV g (some d) c = nowV g (Od.look Ch.key (d :: X) c.key) c by rw [hlook])
              have HCLN := Lib.hid (show CL ++ (clhV (some d) c).toList = CL ++ (clhV (Od.look Ch.key (d :: X) c.key) c).toList by rw [hlook])
              clear hkey hlook
              obtain ⟨curx, frx, hgX⟩ := HGD.out
              have HGXD := Lib.hid hgX
              clear hgX
              go_wp2_with fail
              refine wp_region_steps 5 (fun wz => Below wD.heap.size wD wz) (fun wz => Km wD wz) (fun q wa wb => match q with | 5 => InvM W G k (.func (.func f) #[] #[]) (CL ++ (clhV (some d) c).toList) wb ∧ Km wa wb | _ => wb = wa) 6 [fun z9 _ => z9 = .pointer (some ⟨G, 0, none⟩),
                fun z9 _ => z9 = .slice (some ⟨gx, ox, none⟩) (X.length + 1) nx,
                fun z9 _ => z9 = .pointer (some ⟨gx, ox, none⟩),
                fun z9 _ => z9 = .agg #[.slice Ax mx cx, .bool d.had, .bool d.has, .int .u64 (d.old : Nat), .int .u64 (d.new : Nat)],
                fun z9 _ => z9 = .agg #[.slice Ay my cy, .bool c.had, .bool c.has, .int .u64 (c.old : Nat), .int .u64 (c.new : Nat)],
                fun v9 w9 => v9 = valV (nowV g (some d) c) ∧ InvM W G k (.func (.func f) #[] #[]) (CL ++ (clhV (some d) c).toList) w9]
                (by kernel_rfl) (by kernel_rfl) (by kernel_rfl) (by kernel_rfl) (drewN_below wD 1) (Km.of (drewN_below wD 1)) ?_ ?_ ?_ ?_ ?_
              · intro jq wa wb hj hne h hb
                match jq, hj, hne with
                | 0, _, hne =>
                obtain rfl : wb = wa := hb
                exact h
                | 1, _, hne =>
                obtain rfl : wb = wa := hb
                exact h
                | 2, _, hne =>
                obtain rfl : wb = wa := hb
                exact h
                | 3, _, hne =>
                obtain rfl : wb = wa := hb
                exact h
                | 4, _, hne =>
                obtain rfl : wb = wa := hb
                exact h
                | 5, _, hne => exact absurd rfl hne
              · intro jq wa wb hj h hb
                match jq, hj with
                | 0, _ =>
                obtain rfl : wb = wa := hb
                exact h
                | 1, _ =>
                obtain rfl : wb = wa := hb
                exact h
                | 2, _ =>
                obtain rfl : wb = wa := hb
                exact h
                | 3, _ =>
                obtain rfl : wb = wa := hb
                exact h
                | 4, _ =>
                obtain rfl : wb = wa := hb
                exact h
                | 5, _ =>
                have hb : InvM W G k (.func (.func f) #[] #[]) (CL ++ (clhV (some d) c).toList) wb ∧ Km wa wb := hb
                exact h.trans hb.2
              · intro iq jq v wa wb hi hj hne han h hb
                match iq, jq, hi, hj, hne, han with
                | 0, 0, _, _, hne, han => exact absurd rfl hne
                | 0, 1, _, _, hne, han => 
                obtain rfl : wb = wa := hb
                exact h
                | 0, 2, _, _, hne, han => 
                obtain rfl : wb = wa := hb
                exact h
                | 0, 3, _, _, hne, han => 
                obtain rfl : wb = wa := hb
                exact h
                | 0, 4, _, _, hne, han => 
                obtain rfl : wb = wa := hb
                exact h
                | 0, 5, _, _, hne, han => exact h
                | 1, 0, _, _, hne, han => 
                obtain rfl : wb = wa := hb
                exact h
                | 1, 1, _, _, hne, han => exact absurd rfl hne
                | 1, 2, _, _, hne, han => 
                obtain rfl : wb = wa := hb
                exact h
                | 1, 3, _, _, hne, han => 
                obtain rfl : wb = wa := hb
                exact h
                | 1, 4, _, _, hne, han => 
                obtain rfl : wb = wa := hb
                exact h
                | 1, 5, _, _, hne, han => exact h
                | 2, 0, _, _, hne, han => 
                obtain rfl : wb = wa := hb
                exact h
                | 2, 1, _, _, hne, han => 
                obtain rfl : wb = wa := hb
                exact h
                | 2, 2, _, _, hne, han => exact absurd rfl hne
                | 2, 3, _, _, hne, han => 
                obtain rfl : wb = wa := hb
                exact h
                | 2, 4, _, _, hne, han => 
                obtain rfl : wb = wa := hb
                exact h
                | 2, 5, _, _, hne, han => exact h
                | 3, 0, _, _, hne, han => 
                obtain rfl : wb = wa := hb
                exact h
                | 3, 1, _, _, hne, han => 
                obtain rfl : wb = wa := hb
                exact h
                | 3, 2, _, _, hne, han => 
                obtain rfl : wb = wa := hb
                exact h
                | 3, 3, _, _, hne, han => exact absurd rfl hne
                | 3, 4, _, _, hne, han => 
                obtain rfl : wb = wa := hb
                exact h
                | 3, 5, _, _, hne, han => exact h
                | 4, 0, _, _, hne, han => 
                obtain rfl : wb = wa := hb
                exact h
                | 4, 1, _, _, hne, han => 
                obtain rfl : wb = wa := hb
                exact h
                | 4, 2, _, _, hne, han => 
                obtain rfl : wb = wa := hb
                exact h
                | 4, 3, _, _, hne, han => 
                obtain rfl : wb = wa := hb
                exact h
                | 4, 4, _, _, hne, han => exact absurd rfl hne
                | 4, 5, _, _, hne, han => exact h
                | 5, 0, _, _, hne, han => 
                obtain rfl : wb = wa := hb
                exact h
                | 5, 1, _, _, hne, han => 
                obtain rfl : wb = wa := hb
                exact h
                | 5, 2, _, _, hne, han => 
                obtain rfl : wb = wa := hb
                exact h
                | 5, 3, _, _, hne, han => 
                obtain rfl : wb = wa := hb
                exact h
                | 5, 4, _, _, hne, han => 
                obtain rfl : wb = wa := hb
                exact h
                | 5, 5, _, _, hne, han => exact absurd rfl hne
              · intro iq o hi ho
                match iq, hi with
                | 0, _ =>
                obtain rfl := Option.some.inj ho
                intro a1 w1 K hk hK
                have e0 : a1.tmps.getD 0 undef = .pointer (some ⟨G, 0, none⟩) := hk.same 0 (by simp)
                simp [Region.wanted, Oper.wp, Act.eval, go_sem, e0, ix2, ix3, ix4, hlx, hlc]
                exact hK _ _ rfl rfl
                | 1, _ =>
                obtain rfl := Option.some.inj ho
                intro a1 w1 K hk hK
                have e12 : a1.tmps.getD 12 undef = .slice (some ⟨gx, ox, none⟩) (X.length + 1) nx := hk.same 12 (by simp)
                simp [Region.wanted, Oper.wp, Act.eval, go_sem, e12, ix2, ix3, ix4, hlx, hlc]
                exact hK _ _ rfl rfl
                | 2, _ =>
                obtain rfl := Option.some.inj ho
                intro a1 w1 K hk hK
                have d115 : a1.tmps.getD 115 undef = .slice (some ⟨gx, ox, none⟩) (X.length + 1) nx := hk.deps ⟨1, .data⟩ (by simp) rfl _ _ rfl rfl
                simp [Region.wanted, Oper.wp, Act.eval, go_sem, d115, ix2, ix3, ix4, hlx, hlc]
                exact hK _ _ rfl rfl
                | 3, _ =>
                obtain rfl := Option.some.inj ho
                intro a1 w1 K hk hK
                have d116 : a1.tmps.getD 116 undef = .pointer (some ⟨gx, ox, none⟩) := hk.deps ⟨2, .data⟩ (by simp) rfl _ _ rfl rfl
                have c0 : w1.cell? ⟨gx, ox, none⟩ = some (.slice Ax mx cx) := hk.p1.cell HGXD.out (by decide) x0
                have c1 : w1.cell? ⟨gx, ox + 1, none⟩ = some (.bool d.had) := hk.p1.cell HGXD.out (by decide) x1
                have c2 : w1.cell? ⟨gx, ox + 2, none⟩ = some (.bool d.has) := hk.p1.cell HGXD.out (by decide) x2
                have c3 : w1.cell? ⟨gx, ox + 3, none⟩ = some (.int .u64 (d.old : Nat)) := hk.p1.cell HGXD.out (by decide) x3
                have c4 : w1.cell? ⟨gx, ox + 4, none⟩ = some (.int .u64 (d.new : Nat)) := hk.p1.cell HGXD.out (by decide) x4
                have c5 : w1.cell? ⟨C, 0, none⟩ = some (.slice Ay my cy) := hk.p1.cell HCD.out (by decide) y0
                have c6 : w1.cell? ⟨C, 1, none⟩ = some (.bool c.had) := hk.p1.cell HCD.out (by decide) y1
                have c7 : w1.cell? ⟨C, 2, none⟩ = some (.bool c.has) := hk.p1.cell HCD.out (by decide) y2
                have c8 : w1.cell? ⟨C, 3, none⟩ = some (.int .u64 (c.old : Nat)) := hk.p1.cell HCD.out (by decide) y3
                have c9 : w1.cell? ⟨C, 4, none⟩ = some (.int .u64 (c.new : Nat)) := hk.p1.cell HCD.out (by decide) y4
                simp [Region.wanted, Oper.wp, Act.eval, go_sem, d116, c0, c1, c2, c3, c4, c5, c6, c7, c8, c9, ix2, ix3, ix4, hlx, hlc]
                exact hK _ _ rfl rfl
                | 4, _ =>
                obtain rfl := Option.some.inj ho
                intro a1 w1 K hk hK
                have e19 : a1.tmps.getD 19 undef = .pointer (some ⟨C, 0, none⟩) := hk.same 19 (by simp)
                have c0 : w1.cell? ⟨gx, ox, none⟩ = some (.slice Ax mx cx) := hk.p1.cell HGXD.out (by decide) x0
                have c1 : w1.cell? ⟨gx, ox + 1, none⟩ = some (.bool d.had) := hk.p1.cell HGXD.out (by decide) x1
                have c2 : w1.cell? ⟨gx, ox + 2, none⟩ = some (.bool d.has) := hk.p1.cell HGXD.out (by decide) x2
                have c3 : w1.cell? ⟨gx, ox + 3, none⟩ = some (.int .u64 (d.old : Nat)) := hk.p1.cell HGXD.out (by decide) x3
                have c4 : w1.cell? ⟨gx, ox + 4, none⟩ = some (.int .u64 (d.new : Nat)) := hk.p1.cell HGXD.out (by decide) x4
                have c5 : w1.cell? ⟨C, 0, none⟩ = some (.slice Ay my cy) := hk.p1.cell HCD.out (by decide) y0
                have c6 : w1.cell? ⟨C, 1, none⟩ = some (.bool c.had) := hk.p1.cell HCD.out (by decide) y1
                have c7 : w1.cell? ⟨C, 2, none⟩ = some (.bool c.has) := hk.p1.cell HCD.out (by decide) y2
                have c8 : w1.cell? ⟨C, 3, none⟩ = some (.int .u64 (c.old : Nat)) := hk.p1.cell HCD.out (by decide) y3
                have c9 : w1.cell? ⟨C, 4, none⟩ = some (.int .u64 (c.new : Nat)) := hk.p1.cell HCD.out (by decide) y4
                simp [Region.wanted, Oper.wp, Act.eval, go_sem, e19, c0, c1, c2, c3, c4, c5, c6, c7, c8, c9, ix2, ix3, ix4, hlx, hlc]
                exact hK _ _ rfl rfl
                | 5, _ =>
                obtain rfl := Option.some.inj ho
                intro a1 w1 K hk hK
                have d114 : a1.tmps.getD 114 undef = .pointer (some ⟨G, 0, none⟩) := hk.deps ⟨0, .data⟩ (by simp) rfl _ _ rfl rfl
                have d117 : a1.tmps.getD 117 undef = .agg #[.slice Ax mx cx, .bool d.had, .bool d.has, .int .u64 (d.old : Nat), .int .u64 (d.new : Nat)] := hk.deps ⟨3, .data⟩ (by simp) rfl _ _ rfl rfl
                have d118 : a1.tmps.getD 118 undef = .agg #[.slice Ay my cy, .bool c.had, .bool c.has, .int .u64 (c.old : Nat), .int .u64 (c.new : Nat)] := hk.deps ⟨4, .data⟩ (by simp) rfl _ _ rfl rfl
                simp [Region.wanted, Oper.wp, Act.eval, go_sem, d114, d117, d118, ix2, ix3, ix4, hlx, hlc]
                refine (HBO.out w1 (hk.p0 (by decide))).mono ?_
                rintro e w2 ⟨rfl, hi9, hk9⟩
                exact hK _ _ ⟨hi9, hk9⟩ ⟨rfl, hi9⟩
              · intro vs w3 hl hp3 hv
                match vs, hl with
                | [v0, v1, v2, v3, v4, v5], _ =>
                obtain rfl : v0 = .pointer (some ⟨G, 0, none⟩) := hv 0 (by omega)
                obtain rfl : v1 = .slice (some ⟨gx, ox, none⟩) (X.length + 1) nx := hv 1 (by omega)
                obtain rfl : v2 = .pointer (some ⟨gx, ox, none⟩) := hv 2 (by omega)
                obtain rfl : v3 = .agg #[.slice Ax mx cx, .bool d.had, .bool d.has, .int .u64 (d.old : Nat), .int .u64 (d.new : Nat)] := hv 3 (by omega)
                obtain rfl : v4 = .agg #[.slice Ay my cy, .bool c.had, .bool c.has, .int .u64 (c.old : Nat), .int .u64 (c.new : Nat)] := hv 4 (by omega)
                have q5 : v5 = valV (nowV g (some d) c) ∧ InvM W G k (.func (.func f) #[] #[]) (CL ++ (clhV (some d) c).toList) w3 := hv 5 (by omega)
                clear hv
                simp only [putAll, List.take_succ_cons, List.take_zero, List.drop_succ_cons, List.drop_zero, Act.put, List.setIfInBounds_toArray, List.set_cons_succ, List.set_cons_zero]
                obtain ⟨e5, hi5⟩ := q5
                obtain ⟨x, hx⟩ : ∃ x, nowV g (some d) c = x := ⟨_, rfl⟩
                rw [hx] at e5 HNOW
                unfold valV at e5
                subst e5
                have hR5 := hp3.keep _ _ _ _ HRD.out (by decide)
                have hC5 := hp3.keep _ _ _ _ HCD.out (by decide)
                obtain ⟨z0, z1, z2, z3, z4⟩ := cells5_of hC5
                obtain ⟨p0, p1, _⟩ := cells_of_two2 hR5
                have pf : ∀ i, w3.frozen? ⟨R, i, none⟩ = false := fun i => by simp [World.frozen?, hR5]
                have hl5 := lt_of_block hR5
                have hm5 := lt_of_block hC5
                have hne1 : ¬ R = C := ne_type hR5 hC5 (by decide)
                have hne2 : ¬ C = R := fun e => hne1 e.symm
                have hk9 := ((HKD.out.trans hp3).setNew (j := 0) (x := .bool x.isSome) HRW.out).setNew (j := 1) (x := .int .u64 ((x.getD 0 : Nat) : Int)) HRW.out
                have hW9 : W.heap.size ≤ R := Nat.le_trans HJ.out.inv.bel.size HRW.out
                have HI9 := Lib.hid ((hi5.setNew (j := 0) (x := .bool x.isSome) hR5 (by decide) (by decide) (by decide) hW9).setNew (j := 1) (x := .int .u64 ((x.getD 0 : Nat) : Int)) (three_setCell hR5) (by decide) (by decide) (by decide) hW9)
                have HK9 := Lib.hid hk9
                have HPT := Lib.hid (mput_any ((w3.setCell ⟨R, 0, none⟩ (.bool x.isSome)).setCell ⟨R, 1, none⟩ (.int .u64 ((x.getD 0 : Nat) : Int))) t k x c.p L (.slice Ay my cy) (hk9.trR HJ.out.tr) (hk9.ptNew HPY0.out).rd HYR.out.1 HYR.out.2.1 (fun v hv => HJ.out.vals HGK.out v (by rw [← HNOW.out]; exact hv)))
                unfold valV at HPT
                clear hx hp3 hi5 hR5 hC5 hk9 hW9 s0 s1 y0 y1 y2 y3 y4 x0 x1 x2 x3 x4 hlc hlr hlx
                go_wp2_with fail
                refine HPT.out.mono ?_
                rintro e w8 ⟨t8, rfl, ht8, hb8⟩
                have HF := Lib.hid (HJ.out.put (HK9.out.trans (Km.of hb8)) HY3.out HNOW.out HCLN.out ht8 (HI9.out.below hb8))
                clear ht8 hb8
                go_wp2_with fail
                go_step3
                exact ⟨rfl, n9 - 1, by have := HN9.out; omega, _, _, _, _, _, _, _, _, _, _, _, _, _, _, _, _, _, _, _, _, _, _, _, _, _, _, _, _, _, _, _, _, _, _, _, _, _, _, _, _, _, _, _, _, _, _, _, _, _, _, _, _, _, _, _, _, _, _, _, _, _, _, _, _, _, _, _, _, _, _, _, _, _, _, _, _, _, _, _, _, _, _, _, _, _, _, _, _, _, _, _, _, _, _, _, _, _, _, _, _, _, _, _, _, _, _, _, _, _, _, _, _, _, _, _, _, _, _, _, _, _, _, _, _, _, _, _, _, rfl, HF.out⟩
            · have hkey : c.key < d.key := (cmp_pos _ _).1 (by rw [HCME.out]; have := HNG.out; omega)
              have hlook : Od.look Ch.key (d :: X) c.key = none := by
                rw [Od.look_cons, if_neg (by omega)]
                exact Od.look_eq_none (key := Ch.key) fun e he => by have := HJ.out.rx.asc.head e he; omega
              have HNOW := Lib.hid (show valO c.has c.new = nowV g (Od.look Ch.key (d :: X) c.key) c by rw [hlook]; rfl)
              have HCLN := Lib.hid (show CL = CL ++ (clhV (Od.look Ch.key (d :: X) c.key) c).toList by rw [hlook]; exact (List.append_nil CL).symm)
              have HPT := Lib.hid (mput_any wD t k (valO c.has c.new) c.p L (.slice Ay my cy) (HJq.out.tr.bel HBD.out) (((HPY0.out.below HBQ.out).below HBD.out).rd) HYR.out.1 HYR.out.2.1 (fun v hv => HJ.out.vals HGK.out v (by rw [← HNOW.out]; exact hv)))
              rw [valO_valV HYR.out.2.2] at HPT
              have hz' : (cm == 0) = false := by simp [hz]
              clear hkey hlook
              go_wp2_with fail
              refine HPT.out.mono ?_
              rintro e w8 ⟨t8, rfl, ht8, hb8⟩
              have HF := Lib.hid (HJ.out.put (HKD.out.trans (Km.of hb8)) HY3.out HNOW.out HCLN.out ht8 ((HJq.out.inv.below HBD.out).below hb8))
              clear ht8 hb8
              go_wp2_with fail
              go_step3
              exact ⟨rfl, n9 - 1, by have := HN9.out; omega, _, _, _, _, _, _, _, _, _, _, _, _, _, _, _, _, _, _, _, _, _, _, _, _, _, _, _, _, _, _, _, _, _, _, _, _, _, _, _, _, _, _, _, _, _, _, _, _, _, _, _, _, _, _, _, _, _, _, _, _, _, _, _, _, _, _, _, _, _, _, _, _, _, _, _, _, _, _, _, _, _, _, _, _, _, _, _, _, _, _, _, _, _, _, _, _, _, _, _, _, _, _, _, _, _, _, _, _, _, _, _, _, _, _, _, _, _, _, _, _, _, _, _, _, _, _, _, _, rfl, HF.out⟩
  · intro Q' hR
    have hR := Lib.hid hR
    go_wp2_with fail
    obtain ⟨bT, bS, hb0⟩ := alloc2 w (.cells #[.pointer none, .pointer none, .pointer none] 344) (.cells #[.pointer q0, .pointer q1, .pointer q2] 113)
    obtain ⟨T0, hT0⟩ : ∃ T0, w.heap.size = T0 := ⟨_, rfl⟩
    have HTW := Lib.hid (show w.heap.size ≤ T0 by omega)
    rw [hT0] at bT bS ⊢
    have HB0 := Lib.hid hb0
    clear hT0 hb0
    generalize (w.alloc (.cells #[.pointer none, .pointer none, .pointer none] 344)).alloc (.cells #[.pointer q0, .pointer q1, .pointer q2] 113) = wa at *
    have HS0 := Lib.hid (And.intro bT bS)
    clear bT bS
    go_loopw [10, 11, 28] (fun _ _ iv wr => ∃ (j : Nat) (a b c : Option Nat), j ≤ 3 ∧ iv = .int .i64 (j : Nat) ∧ wr.heap[T0]? = some (.cells #[pv a, pv b, pv c] 344 (0, 0)) ∧ Below w.heap.size w wr ∧ wr.heap[T0 + 1]? = some (.cells #[.pointer q0, .pointer q1, .pointer q2] 113 (0, 0)) ∧
      ((1 ≤ j → ∃ t, a = some t ∧ TrR wr t k lo) ∧ (2 ≤ j → ∃ t, b = some t ∧ TrR wr t k la) ∧ (3 ≤ j → ∃ t, c = some t ∧ TrR wr t k lb))) (fun _ _ i _ => 3 - (intOf i).toNat)
    case atStart => exact ⟨0, none, none, none, by omega, rfl, HS0.out.1, HB0.out, HS0.out.2, fun h => absurd h (by omega), fun h => absurd h (by omega), fun h => absurd h (by omega)⟩
    case round =>
      obtain ⟨j, a, b, c, hj, rfl, hT, hb, hS, hJ⟩ := hrel
      rcases (show j = 0 ∨ j = 1 ∨ j = 2 ∨ j = 3 by omega) with rfl | rfl | rfl | rfl
      · have k0 : wr.cell? ⟨T0 + 1, 0, none⟩ = some (.pointer q0) := by simp [World.cell?, hS]
        obtain ⟨_, _, _, _, g0, _, _, _⟩ := (HI.out.below hb).cells
        have hlS := lt_of_block hS
        have hlG := World.block_lt_of_cell? wr _ g0
        have HRJ := Lib.hid (And.intro hT (And.intro hb (And.intro hS hJ)))
        clear hT hb hS hJ
        go_wp2_with fail
        refine (HOF0.out wr (HR0.out.below HRJ.out.2.1)).mono ?_
        rintro e w2 ⟨t, rfl, ht, hb2⟩
        have hT2 := (hb2.block _ (lt_of_block HRJ.out.1)).trans HRJ.out.1
        have HT2 := Lib.hid (And.intro hT2 (And.intro ht hb2))
        have x0 : w2.cell? ⟨T0, 0, none⟩ = some (pv a) := by simp [World.cell?, hT2]
        have x1 : w2.frozen? ⟨T0, 0, none⟩ = false := by simp [World.frozen?, hT2]
        have x2 := lt_of_block hT2
        clear ht hb2 hT2 k0 g0 hlS hlG
        go_wp2_with fail
        go_roundw
        case rel =>
          have hkm : Km w2 (w2.setCell ⟨T0, 0, none⟩ (.pointer (some ⟨t, 0, none⟩))) := Km.setT HT2.out.1 (by decide)
          have hkw := (Km.of HT2.out.2.2).trans hkm
          refine ⟨1, some t, b, c, by omega, rfl, by rw [three_setCell HT2.out.1]; rfl, (HRJ.out.2.1.trans (HT2.out.2.2.mono HRJ.out.2.1.size)).setCell HTW.out _, ?_, ⟨fun _ => ⟨t, rfl, hkm.trR HT2.out.2.1⟩, fun h => absurd h (by omega), fun h => absurd h (by omega)⟩⟩
          · rw [heap_setCell_other _ _ _ _ (show T0 + 1 ≠ T0 by omega)]
            exact (HT2.out.2.2.block _ (lt_of_block HRJ.out.2.2.1)).trans HRJ.out.2.2.1
        case measure => simp [intOf]
      · have k0 : wr.cell? ⟨T0 + 1, 1, none⟩ = some (.pointer q1) := by simp [World.cell?, hS]
        obtain ⟨_, _, _, _, g0, _, _, _⟩ := (HI.out.below hb).cells
        have hlS := lt_of_block hS
        have hlG := World.block_lt_of_cell? wr _ g0
        have HRJ := Lib.hid (And.intro hT (And.intro hb (And.intro hS hJ)))
        clear hT hb hS hJ
        go_wp2_with fail
        refine (HOF1.out wr (HR1.out.below HRJ.out.2.1)).mono ?_
        rintro e w2 ⟨t, rfl, ht, hb2⟩
        have hT2 := (hb2.block _ (lt_of_block HRJ.out.1)).trans HRJ.out.1
        have HT2 := Lib.hid (And.intro hT2 (And.intro ht hb2))
        have x0 : w2.cell? ⟨T0, 1, none⟩ = some (pv b) := by simp [World.cell?, hT2]
        have x1 : w2.frozen? ⟨T0, 1, none⟩ = false := by simp [World.frozen?, hT2]
        have x2 := lt_of_block hT2
        clear ht hb2 hT2 k0 g0 hlS hlG
        go_wp2_with fail
        go_roundw
        case rel =>
          have hkm : Km w2 (w2.setCell ⟨T0, 1, none⟩ (.pointer (some ⟨t, 0, none⟩))) := Km.setT HT2.out.1 (by decide)
          have hkw := (Km.of HT2.out.2.2).trans hkm
          refine ⟨2, a, some t, c, by omega, rfl, by rw [three_setCell HT2.out.1]; rfl, (HRJ.out.2.1.trans (HT2.out.2.2.mono HRJ.out.2.1.size)).setCell HTW.out _, ?_, ⟨fun _ => let ⟨t', h1, h2⟩ := HRJ.out.2.2.2.1 (by omega); ⟨t', h1, hkw.trR h2⟩, fun _ => ⟨t, rfl, hkm.trR HT2.out.2.1⟩, fun h => absurd h (by omega)⟩⟩
          · rw [heap_setCell_other _ _ _ _ (show T0 + 1 ≠ T0 by omega)]
            exact (HT2.out.2.2.block _ (lt_of_block HRJ.out.2.2.1)).trans HRJ.out.2.2.1
        case measure => simp [intOf]
      · have k0 : wr.cell? ⟨T0 + 1, 2, none⟩ = some (.pointer q2) := by simp [World.cell?, hS]
        obtain ⟨_, _, _, _, g0, _, _, _⟩ := (HI.out.below hb).cells
        have hlS := lt_of_block hS
        have hlG := World.block_lt_of_cell? wr _ g0
        have HRJ := Lib.hid (And.intro hT (And.intro hb (And.intro hS hJ)))
        clear hT hb hS hJ
        go_wp2_with fail
        refine (HOF2.out wr (HR2.out.below HRJ.out.2.1)).mono ?_
        rintro e w2 ⟨t, rfl, ht, hb2⟩
        have hT2 := (hb2.block _ (lt_of_block HRJ.out.1)).trans HRJ.out.1
        have HT2 := Lib.hid (And.intro hT2 (And.intro ht hb2))
        have x0 : w2.cell? ⟨T0, 2, none⟩ = some (pv c) := by simp [World.cell?, hT2]
        have x1 : w2.frozen? ⟨T0, 2, none⟩ = false := by simp [World.frozen?, hT2]
        have x2 := lt_of_block hT2
        clear ht hb2 hT2 k0 g0 hlS hlG
        go_wp2_with fail
        go_roundw
        case rel =>
          have hkm : Km w2 (w2.setCell ⟨T0, 2, none⟩ (.pointer (some ⟨t, 0, none⟩))) := Km.setT HT2.out.1 (by decide)
          have hkw := (Km.of HT2.out.2.2).trans hkm
          refine ⟨3, a, b, some t, by omega, rfl, by rw [three_setCell HT2.out.1]; rfl, (HRJ.out.2.1.trans (HT2.out.2.2.mono HRJ.out.2.1.size)).setCell HTW.out _, ?_, ⟨fun _ => let ⟨t', h1, h2⟩ := HRJ.out.2.2.2.1 (by omega); ⟨t', h1, hkw.trR h2⟩, fun _ => let ⟨t', h1, h2⟩ := HRJ.out.2.2.2.2.1 (by omega); ⟨t', h1, hkw.trR h2⟩, fun _ => ⟨t, rfl, hkm.trR HT2.out.2.1⟩⟩⟩
          · rw [heap_setCell_other _ _ _ _ (show T0 + 1 ≠ T0 by omega)]
            exact (HT2.out.2.2.block _ (lt_of_block HRJ.out.2.2.1)).trans HRJ.out.2.2.1
        case measure => simp [intOf]
      · obtain ⟨t0, rfl, ht0⟩ := hJ.1 (by omega)
        obtain ⟨t1, rfl, ht1⟩ := hJ.2.1 (by omega)
        obtain ⟨t2, rfl, ht2⟩ := hJ.2.2 (by omega)
        simp only [pv_some] at hT
        have HTT := Lib.hid (And.intro ht0 (And.intro ht1 ht2))
        have HB := Lib.hid hb
        have HTB := Lib.hid hT
        obtain ⟨e0, e1, e2⟩ := cells3_of hT
        have hlT := lt_of_block hT
        clear hT hb hS hJ ht0 ht1 ht2
        go_wp2_with fail
        refine (changes_any wr t0 t1 k lo la HTT.out.1 HTT.out.2.1 (by have := HN.out; omega)).mono ?_
        rintro e w2 ⟨vx, rfl, hox, hb2⟩
        have HX2 := Lib.hid (And.intro hox.chV hb2)
        have hT2 := (hb2.block _ hlT).trans HTB.out
        have HTB2 := Lib.hid hT2
        clear hox hb2 e0 e1 e2 hlT
        obtain ⟨e0, e1, e2⟩ := cells3_of hT2
        have hlT := lt_of_block hT2
        clear hT2
        go_wp2_with fail
        refine (changes_any w2 t0 t2 k lo lb (HTT.out.1.bel HX2.out.2) (HTT.out.2.2.bel HX2.out.2) (by have := HN.out; omega)).mono ?_
        rintro e w3 ⟨vy, rfl, hoy, hb3⟩
        have HX3 := Lib.hid (And.intro hoy.chV hb3)
        have hT3 := (hb3.block _ hlT).trans HTB2.out
        clear hoy hb3 e0 e1 e2 hlT
        obtain ⟨e0, e1, e2⟩ := cells3_of hT3
        have hlT := lt_of_block hT3
        clear hT3
        go_wp2_with fail
        have hbw := HB.out.trans ((HX2.out.2.trans (HX3.out.2.mono HX2.out.2.size)).mono HB.out.size)
        have rx := chg_rt HET.out.1 HET.out.2.1
        have ry := chg_rt HET.out.1 HET.out.2.2
        have c1 := changes_len HET.out.1 HET.out.2.1
        have c2 := changes_len HET.out.1 HET.out.2.2
        go_step3
        simp only [Exit.then]
        rename_i hK
        refine hK _ _ ?_
        refine hR.out ((changesL lo la).length + (changesL lo lb).length) _ _ ?_
        exact ⟨changesL lo la, changesL lo lb, la, cl, vx, vy, t1, _, _, _, _, _, _, _, _, _, _, _, _, _, _, _, _, _, _, _, _, _, _, _, _, _, _, _, _, _, _, _, _, _, _, _, _, _, _, _, _, _, _, _, _, _, _, _, _, _, _, _, _, _, _, _, _, _, _, _, _, _, _, _, _, _, _, _, _, _, _, _, _, _, _, _, _, _, _, _, _, _, _, _, _, _, _, _, _, _, _, _, _, _, _, _, _, _, _, _, _, _, _, _, _, _, _, _, _, _, _, _, _, _, _, _, _, _, _, _, _, _, rfl, (Km.of HX3.out.2).chV HX2.out.1, HX3.out.1, ((HTT.out.2.1.bel HX2.out.2).bel HX3.out.2), HI.out.below hbw, Km.of hbw, apart_mrg g HET.out.1 HET.out.2.1 HET.out.2.2 ry, by rw [apart_cls HET.out.1 HET.out.2.1 HET.out.2.2], rx, ry, chg_okV HET.out.1 HET.out.2.1 HV.out.1 HV.out.2.1, chg_okV HET.out.1 HET.out.2.2 HV.out.1 HV.out.2.2, fun _ _ => rfl, Nat.le_refl _, by have := HN.out; omega⟩
end Go.Proofs.YtdkomhmciihkiaaGreat
/-! MrgH -/
namespace Go.Proofs.YtdkomhmciihkiaaGreat
open Go.RowKit
set_option linter.unusedVariables false
set_option linter.unusedSimpArgs false
set_option maxRecDepth 100000

theorem sfrom_nil (w : World) (a : Int) : Calls Tryz.prog 231 #[.pointer none, .int .i64 a] w fun e w' => e = .returned (.tuple #[.int .i64 0, .pointer none, .bool false]) ∧ Below w.heap.size w w' := by
  go_enter Tryz.func231, Tryz.ntmps231
  go_wp2_with fail
  refine bodyPost_ret (v := .tuple #[.int .i64 0, .pointer none, .bool false]) (by simp [results, Tryz.results231, go_sem]) rfl ⟨rfl, (by repeat (first | exact Below.refl _ _ | (refine Below.drew ?_) | (refine below_drewN' ?_ _) | (refine below_alloc' ?_ _) | (refine Below.setCell ?_ (by first | exact Nat.le_refl _ | (simp; done) | (simp; omega)) _)))⟩
theorem nfrom_nil (w : World) (a : Int) : Calls Tryz.prog 178 #[.pointer none, .int .i64 a] w fun e w' => e = .returned (.tuple #[.int .i64 0, .pointer none]) ∧ Below w.heap.size w w' := by
  go_enter Tryz.func178, Tryz.ntmps178
  go_wp2_with fail
  refine (nslots_nil _).mono ?_
  rintro e w1 ⟨rfl, hw⟩
  obtain rfl := hw.symm
  clear hw
  go_wp2_with fail
  refine (sfrom_nil _ _).mono ?_
  rintro e w1 ⟨rfl, hb⟩
  have HB := Lib.hid hb
  clear hb
  go_wp2_with fail
  go_ret2
  exact ⟨rfl, HB.out⟩
/-- the next kid from an address on -/
def FrmP (W : World) (k n : Nat) (l : List En) (a : Nat) (e : Ending) (w' : World) : Prop := Below W.heap.size W w' ∧
  ((e = .returned (.tuple #[.int .i64 0, .pointer none]) ∧ ∀ x ∈ l, Zb.addr x.p n < a) ∨
   ∃ i b : Nat, e = .returned (.tuple #[.int .i64 (i : Nat), .pointer (some ⟨b, 0, none⟩)]) ∧ a ≤ i ∧ i < 2 ^ k ∧ (∃ x ∈ l, Zb.addr x.p n = i) ∧ ∀ x ∈ l, Zb.addr x.p n < a ∨ i ≤ Zb.addr x.p n)
theorem mem_cat' {ks : List (Nat × Nat × List En)} {x : En} : x ∈ cat (ks.map kl) ↔ ∃ y ∈ ks, x ∈ y.2.2 := by
  rw [mem_cat]
  constructor
  · rintro ⟨z, hz, hx⟩
    obtain ⟨y, hy, rfl⟩ := List.mem_map.1 hz
    exact ⟨y, hy, hx⟩
  · rintro ⟨y, hy, hx⟩
    exact ⟨kl y, List.mem_map_of_mem hy, hx⟩
theorem nfrom_n (w : World) (k n : Nat) (r : Option Nat) (l : List En) (a : Nat) (h : RtN w k r l) (hl : r ≠ none → lev l = n + 1) :
    Calls Tryz.prog 178 #[pv r, .int .i64 (a : Nat)] w fun e w' => FrmP w k n l a e w' := by
  cases r with
  | none =>
    obtain rfl : l = [] := h
    refine (nfrom_nil w _).mono ?_
    rintro e w' ⟨rfl, hb⟩
    exact ⟨hb, .inl ⟨rfl, fun x hx => by cases hx⟩⟩
  | some b =>
    have hl := hl (by simp)
    have hnd : Nd w k b l := h
    obtain ⟨s, n', pre, ks, rfl, hh, hs, hkd, hn⟩ := hnd.node_of (by omega)
    obtain rfl : n' = n := by have := hkd.lev; omega
    have hadr : ∀ y ∈ ks, ∀ x ∈ y.2.2, Zb.addr x.p n' = y.1 := fun y hy x hx => hkd.adr (kl y) (List.mem_map_of_mem hy) x hx
    refine (nfrom_any w b s k (ks.map kb) (a : Nat) hh.c3 hs).mono ?_
    rintro e w' ⟨rfl, hb⟩
    refine ⟨hb, ?_⟩
    cases hf : fromI (ks.map kb) (a : Nat) with
    | none =>
      refine .inl ⟨rfl, fun x hx => ?_⟩
      obtain ⟨y, hy, hx⟩ := mem_cat'.1 hx
      rw [hadr y hy x hx]
      unfold fromI at hf
      have := List.find?_eq_none.1 hf (kb y) (List.mem_map_of_mem hy)
      have e2 : (kb y).1 = y.1 := rfl
      simp only [decide_eq_true_iff] at this
      omega
    | some x =>
      unfold fromI at hf
      obtain ⟨h1, xs1, bs, h2, h3⟩ := List.find?_eq_some_iff_append.1 hf
      simp only [decide_eq_true_iff] at h1
      have hx : x ∈ ks.map kb := by rw [h2]; simp
      obtain ⟨y, hy, rfl⟩ := List.mem_map.1 hx
      have e2 : (kb y).1 = y.1 := rfl
      have hasc : (ks.map kb).Pairwise (fun u v => u.1 < v.1) := hs.rw'.asc
      rw [h2] at hasc
      obtain ⟨_, ha2, _⟩ := List.pairwise_append.1 hasc
      have ha3 := (List.pairwise_cons.1 ha2).1
      have hlt := hkd.addr_lt (List.mem_map_of_mem (f := kl) hy)
      obtain ⟨z, hz⟩ := List.exists_mem_of_ne_nil _ (hkd.ne (kl y) (List.mem_map_of_mem hy))
      refine .inr ⟨y.1, y.2.1, rfl, by rw [e2] at h1; omega, hlt, ⟨z, mem_cat'.2 ⟨y, hy, hz⟩, hadr y hy z hz⟩, fun q hq => ?_⟩
      obtain ⟨t, ht, hq⟩ := mem_cat'.1 hq
      rw [hadr t ht q hq]
      have hm : kb t ∈ xs1 ++ kb y :: bs := by rw [← h2]; exact List.mem_map_of_mem ht
      have e4 : (kb t).1 = t.1 := rfl
      rcases List.mem_append.1 hm with hm | hm
      · left
        have := h3 (kb t) hm
        simp only [Bool.not_eq_true', decide_eq_false_iff_not, e4] at this
        omega
      · rcases List.mem_cons.1 hm with hm | hm
        · right
          have : (kb t).1 = (kb y).1 := by rw [hm]
          omega
        · right
          have := ha3 _ hm
          rw [e2, e4] at this
          omega
theorem nkid_n (w : World) (k n : Nat) (r : Option Nat) (l : List En) (a : Nat) (h : RtN w k r l) (hl : r ≠ none → lev l = n + 1) :
    Calls Tryz.prog 137 #[pv r, .int .i64 (a : Nat)] w fun e w' => RtP w k (filE (eqA n a) l) e w' := by
  cases r with
  | none =>
    obtain rfl : l = [] := h
    refine (nkid_nil w _).mono ?_
    rintro e w' ⟨rfl, hb⟩
    exact ⟨none, rfl, rfl, hb⟩
  | some b =>
    have hl := hl (by simp)
    have hnd : Nd w k b l := h
    obtain ⟨s, n', pre, ks, rfl, hh, hs, hkd, hn⟩ := hnd.node_of (by omega)
    obtain rfl : n' = n := by have := hkd.lev; omega
    refine (nkid_any w b s k (ks.map kb) (a : Nat) hh.c3 hs).mono ?_
    rintro e w' ⟨rfl, hb⟩
    rw [← hkd.kid_fil]
    exact ⟨_, rfl, (look_kid_rt hn).below hb, hb⟩
theorem fil_len (φ : List Nat → Bool) (l : List En) : (filE φ l).length ≤ l.length := List.length_filter_le _ _
theorem ins_len_le (p : List Nat) (v : Nat) (l : List En) : (insE p v l).length ≤ l.length + 1 := Od.ins_length
theorem pts_len (a b : List En) : (pointsL a b).length ≤ a.length + b.length := by
  induction b generalizing a with
  | nil => simp [pointsL]
  | cons e b ih =>
    show (pointsL (insE e.p 0 a) b).length ≤ _
    have h1 := ih (insE e.p 0 a)
    have h2 := ins_len_le e.p 0 a
    rw [List.length_cons]
    omega
theorem cls_len (o a b : List En) : (clsL o a b).length ≤ o.length + a.length + b.length := by
  unfold clsL
  refine Nat.le_trans (List.length_filterMap_le _ _) ?_
  unfold ptsL
  have h1 := pts_len o a
  have h2 := pts_len (pointsL o a) b
  omega
/-- two parts by address together are no longer than the list -/
theorem fil_two {n x y : Nat} (h : x ≤ y) (l : List En) : (filE (ltA n x) l).length + (filE (eqA n y) l).length ≤ l.length := by
  induction l with
  | nil => simp [filE]
  | cons e l ih =>
    unfold filE at ih ⊢
    by_cases h1 : Zb.addr e.p n < x
    · rw [List.filter_cons_of_pos (by simp only [ltA, decide_eq_true_eq]; exact h1), List.filter_cons_of_neg (by simp only [eqA, decide_eq_true_eq]; omega), List.length_cons, List.length_cons]
      omega
    · by_cases h2 : Zb.addr e.p n = y
      · rw [List.filter_cons_of_neg (by simp only [ltA, decide_eq_true_eq]; exact h1), List.filter_cons_of_pos (by simp only [eqA, decide_eq_true_eq]; exact h2), List.length_cons, List.length_cons]
        omega
      · rw [List.filter_cons_of_neg (by simp only [ltA, decide_eq_true_eq]; exact h1), List.filter_cons_of_neg (by simp only [eqA, decide_eq_true_eq]; exact h2), List.length_cons]
        omega
/-- a kid is shorter than its node -/
theorem fil_lt {w : World} {k n a : Nat} {r : Option Nat} {l : List En} (h : RtN w k r l) (hl : r ≠ none → lev l = n + 1) (hne : l ≠ []) : (filE (eqA n a) l).length < l.length := by
  cases r with
  | none => exact absurd h hne
  | some b =>
    have hl := hl (by simp)
    have hnd : Nd w k b l := h
    obtain ⟨s, n', pre, ks, rfl, hh, hs, hkd, hn⟩ := hnd.node_of (by omega)
    obtain rfl : n' = n := by have := hkd.lev; omega
    obtain ⟨x, hx, y, hy, hxy, h3, h4, _⟩ := hkd.ends
    have m1 : (cat (ks.map kl)).head! ∈ cat (ks.map kl) := head!_mem hkd.cat_ne
    have m2 : (cat (ks.map kl)).getLast! ∈ cat (ks.map kl) := getLast!_mem hkd.cat_ne
    have a1 := hkd.adr x hx _ h3
    have a2 := hkd.adr y hy _ h4
    unfold filE
    rw [List.length_filter_lt_length_iff_exists]
    by_cases he : x.1 = a
    · exact ⟨_, m2, by simp only [eqA, a2, decide_eq_true_eq]; omega⟩
    · exact ⟨_, m1, by simp only [eqA, a1, decide_eq_true_eq]; exact he⟩
theorem RtN.atLev {w : World} {k n : Nat} {pre : List Nat} {r : Option Nat} {l : List En} (h : RtN w k r l) (hl : r ≠ none → lev l = n + 1 ∧ preL l = pre) : AtLev k n pre l := by
  refine ⟨h.et, fun e he => ?_⟩
  cases r with
  | none => obtain rfl : l = [] := h; cases he
  | some b =>
    have hnd : Nd w k b l := h
    obtain ⟨h1, h2⟩ := hl (by simp)
    rw [← h1, hnd.cut e he, h2]
theorem RtN.vals {w : World} {k : Nat} {r : Option Nat} {l : List En} (h : RtN w k r l) : ∀ e ∈ l, e.v < 2 ^ 64 := by
  cases r with
  | none => obtain rfl : l = [] := h; simp
  | some b => exact Nd.vals h
end Go.Proofs.YtdkomhmciihkiaaGreat
/-! DigP -/
namespace Go.Proofs.YtdkomhmciihkiaaGreat
open Go.RowKit
set_option linter.unusedVariables false
set_option linter.unusedSimpArgs false

end Go.Proofs.YtdkomhmciihkiaaGreat
/-! DigA -/
namespace Go.Proofs.YtdkomhmciihkiaaGreat
open Go.RowKit
set_option linter.unusedVariables false
set_option linter.unusedSimpArgs false
set_option maxRecDepth 100000










































end Go.Proofs.YtdkomhmciihkiaaGreat
/-! DigB -/
namespace Go.Proofs.YtdkomhmciihkiaaGreat
open Go.RowKit
set_option linter.unusedVariables false
set_option linter.unusedSimpArgs false
set_option maxRecDepth 100000

end Go.Proofs.YtdkomhmciihkiaaGreat
/-! DigC -/
namespace Go.Proofs.YtdkomhmciihkiaaGreat
open Go.RowKit
set_option linter.unusedVariables false
set_option linter.unusedSimpArgs false
set_option maxRecDepth 100000

end Go.Proofs.YtdkomhmciihkiaaGreat
/-! DigD -/
namespace Go.Proofs.YtdkomhmciihkiaaGreat
open Go.RowKit
set_option linter.unusedVariables false
set_option linter.unusedSimpArgs false
set_option maxRecDepth 100000

end Go.Proofs.YtdkomhmciihkiaaGreat
/-! DigE -/
namespace Go.Proofs.YtdkomhmciihkiaaGreat
open Go.RowKit
set_option linter.unusedVariables false
set_option linter.unusedSimpArgs false
set_option maxRecDepth 100000

/-- v reads as a list of ints -/
def RdI (w : World) (v : Value) (xs : List Int) : Prop := Sl w v (xs.map (.int .i64))
theorem RdI.below {w w' : World} {v : Value} {xs : List Int} (h : RdI w v xs) (hb : Below w.heap.size w w') : RdI w' v xs := Sl.below h hb
theorem RdI.slice {w : World} {v : Value} {xs : List Int} (h : RdI w v xs) : ∃ A c, v = .slice A xs.length c ∧ (0 < xs.length → ∃ b o, A = some ⟨b, o, none⟩ ∧ ∀ j (h : j < xs.length), w.cell? ⟨b, o + j, none⟩ = some (.int .i64 xs[j])) := by
  obtain ⟨A, c, rfl, hx⟩ := h
  refine ⟨A, c, by rw [List.length_map], fun h0 => ?_⟩
  obtain ⟨b, o, h4, h5⟩ := hx (by rw [List.length_map]; exact h0)
  refine ⟨b, o, h4, fun j hj => ?_⟩
  have := h5 j (by rw [List.length_map]; exact hj)
  rw [List.getElem_map] at this
  exact this
end Go.Proofs.YtdkomhmciihkiaaGreat
/-! DigF -/
namespace Go.Proofs.YtdkomhmciihkiaaGreat
open Go.RowKit
set_option linter.unusedVariables false
set_option linter.unusedSimpArgs false
set_option maxRecDepth 100000

theorem wp_scope_jumps3 {P : Program} {a : Act} {w : World} {Q : Exit → Act → World → Prop} {c rest : Code} (l : Nat) (J : Act → World → Prop) (μ : Act → World → Nat) (hf : findLabel c l = some (Code.skip.seq rest))
    (pass : ∀ a w, J a w → rest.wp P (Exit.jump l (fun a' w' => J a' w' ∧ μ a' w' < μ a w) Q) a w)
    (first : ∀ Q', (∀ a w, J a w → rest.wp P Q' a w) → (∀ a w, Q .ret a w → Q' .ret a w) → c.wp P Q' a w) : (Code.scope c).wp P Q a w :=
  wp_scope_jumps l J μ hf (first _ (fun a w hJ => wp_mono (pass a w hJ) (by
    intro e a' w' h
    cases e
    case goto l' => exact ⟨h.1, h.2.1⟩
    all_goals exact h)) (fun a w h => h)) (fun a w hJ => wp_seq (wp_skip (pass a w hJ)))
end Go.Proofs.YtdkomhmciihkiaaGreat
/-! MrgI -/
namespace Go.Proofs.YtdkomhmciihkiaaGreat
open Go.RowKit
set_option linter.unusedVariables false
set_option linter.unusedSimpArgs false
set_option maxRecDepth 100000

theorem nlev_none (w : World) : Calls Tryz.prog 121 #[.pointer none] w fun e w' => e = .returned (.int .i64 (-1)) ∧ w' = w := by
  go_enter Tryz.func121, Tryz.ntmps121
  go_wp2_with fail
  go_ret
  exact ⟨rfl, rfl⟩
/-- the least address at which one of some nodes has a kid, from t on -/
def LstOk (k n t : Nat) (rs : List (Option Nat × List En)) (least : Nat) (any : Bool) : Prop :=
  (any = false ∧ least = 0 ∧ ∀ x ∈ rs, ∀ e ∈ x.2, Zb.addr e.p n < t) ∨
  (any = true ∧ t ≤ least ∧ least < 2 ^ k ∧ (∃ x ∈ rs, ∃ e ∈ x.2, Zb.addr e.p n = least) ∧ ∀ x ∈ rs, ∀ e ∈ x.2, Zb.addr e.p n < t ∨ least ≤ Zb.addr e.p n)
theorem LstOk.more_none {k n t least : Nat} {any : Bool} {rs : List (Option Nat × List En)} {r : Option Nat} {l : List En} (h : LstOk k n t rs least any) (hl : ∀ x ∈ l, Zb.addr x.p n < t) : LstOk k n t (rs ++ [(r, l)]) least any := by
  rcases h with ⟨h1, h2, h3⟩ | ⟨h1, h2, h3, ⟨y, hy, h4⟩, h5⟩
  · refine .inl ⟨h1, h2, fun x hx => ?_⟩
    rcases List.mem_append.1 hx with hx | hx
    · exact h3 x hx
    · rw [List.mem_singleton.1 hx]; exact hl
  · refine .inr ⟨h1, h2, h3, ⟨y, List.mem_append_left _ hy, h4⟩, fun x hx e he => ?_⟩
    rcases List.mem_append.1 hx with hx | hx
    · exact h5 x hx e he
    · rw [List.mem_singleton.1 hx] at he; exact .inl (hl e he)
theorem LstOk.more_first {k n t least i : Nat} {rs : List (Option Nat × List En)} {r : Option Nat} {l : List En} (h : LstOk k n t rs least false) (h1 : t ≤ i) (h2 : i < 2 ^ k) (h3 : ∃ x ∈ l, Zb.addr x.p n = i) (h4 : ∀ x ∈ l, Zb.addr x.p n < t ∨ i ≤ Zb.addr x.p n) : LstOk k n t (rs ++ [(r, l)]) i true := by
  rcases h with ⟨_, _, h5⟩ | ⟨h5, _⟩
  · refine .inr ⟨rfl, h1, h2, ⟨(r, l), by simp, h3⟩, fun x hx e he => ?_⟩
    rcases List.mem_append.1 hx with hx | hx
    · exact .inl (h5 x hx e he)
    · rw [List.mem_singleton.1 hx] at he; exact h4 e he
  · cases h5
theorem LstOk.more_less {k n t least i : Nat} {rs : List (Option Nat × List En)} {r : Option Nat} {l : List En} (h : LstOk k n t rs least true) (h1 : t ≤ i) (h2 : i < 2 ^ k) (h3 : ∃ x ∈ l, Zb.addr x.p n = i) (h4 : ∀ x ∈ l, Zb.addr x.p n < t ∨ i ≤ Zb.addr x.p n) (hlt : i < least) : LstOk k n t (rs ++ [(r, l)]) i true := by
  rcases h with ⟨h5, _⟩ | ⟨_, h5, h6, h7, h8⟩
  · cases h5
  · refine .inr ⟨rfl, h1, h2, ⟨(r, l), by simp, h3⟩, fun x hx e he => ?_⟩
    rcases List.mem_append.1 hx with hx | hx
    · have := h8 x hx e he; omega
    · rw [List.mem_singleton.1 hx] at he; exact h4 e he
theorem LstOk.more_more {k n t least i : Nat} {rs : List (Option Nat × List En)} {r : Option Nat} {l : List En} (h : LstOk k n t rs least true) (h4 : ∀ x ∈ l, Zb.addr x.p n < t ∨ i ≤ Zb.addr x.p n) (hge : least ≤ i) : LstOk k n t (rs ++ [(r, l)]) least true := by
  rcases h with ⟨h5, _⟩ | ⟨_, h5, h6, ⟨y, hy, h7⟩, h8⟩
  · cases h5
  · refine .inr ⟨rfl, h5, h6, ⟨y, List.mem_append_left _ hy, h7⟩, fun x hx e he => ?_⟩
    rcases List.mem_append.1 hx with hx | hx
    · exact h8 x hx e he
    · rw [List.mem_singleton.1 hx] at he; have := h4 e he; omega
theorem LstOk.none_left {k n t least : Nat} {ro ra rb : Option Nat} {lo la lb : List En} (h : LstOk k n t [(ro, lo), (ra, la), (rb, lb)] least false) : ∀ e, e ∈ lo ∨ e ∈ la ∨ e ∈ lb → Zb.addr e.p n < t := by
  rcases h with ⟨_, _, h5⟩ | ⟨h5, _⟩
  · rintro e (he | he | he)
    · exact h5 (ro, lo) (by simp) e he
    · exact h5 (ra, la) (by simp) e he
    · exact h5 (rb, lb) (by simp) e he
  · cases h5
theorem LstOk.some_left {k n t least : Nat} {ro ra rb : Option Nat} {lo la lb : List En} (h : LstOk k n t [(ro, lo), (ra, la), (rb, lb)] least true) : t ≤ least ∧ least < 2 ^ k ∧ (lo ≠ [] ∨ la ≠ [] ∨ lb ≠ []) ∧ ∀ e, e ∈ lo ∨ e ∈ la ∨ e ∈ lb → Zb.addr e.p n < t ∨ least ≤ Zb.addr e.p n := by
  rcases h with ⟨h5, _⟩ | ⟨_, h5, h6, ⟨y, hy, e, he, _⟩, h8⟩
  · cases h5
  · refine ⟨h5, h6, ?_, ?_⟩
    · simp only [List.mem_cons, List.not_mem_nil, or_false] at hy
      rcases hy with rfl | rfl | rfl
      · exact .inl (List.ne_nil_of_mem he)
      · exact .inr (.inl (List.ne_nil_of_mem he))
      · exact .inr (.inr (List.ne_nil_of_mem he))
    · rintro e (he | he | he)
      · exact h8 (ro, lo) (by simp) e he
      · exact h8 (ra, la) (by simp) e he
      · exact h8 (rb, lb) (by simp) e he
theorem filE_allR (g : Clh → Option Nat) {k n t : Nat} {o a b : List En} (ho : Et k o) (ha : Et k a) (hb : Et k b) (h : ∀ e, e ∈ o ∨ e ∈ a ∨ e ∈ b → Zb.addr e.p n < t) : filE (ltA n t) (mrgL g o a b) = mrgL g o a b :=
  fil_all fun e he => by
    obtain ⟨f, hf, e1⟩ := mem_mrg ho ha hb he
    rw [← e1]
    exact decide_eq_true (h f hf)
theorem filC_allR {k n t : Nat} {o a b : List En} (ho : Et k o) (ha : Et k a) (hb : Et k b) (h : ∀ e, e ∈ o ∨ e ∈ a ∨ e ∈ b → Zb.addr e.p n < t) : filC (ltA n t) (clsL o a b) = clsL o a b :=
  filC_all fun e he => by
    obtain ⟨f, hf, e1⟩ := mem_cls ho ha hb he
    rw [← e1]
    exact decide_eq_true (h f hf)
theorem filE_gap (g : Clh → Option Nat) {k n t s : Nat} {o a b : List En} (ho : Et k o) (ha : Et k a) (hb : Et k b) (hts : t ≤ s) (h : ∀ e, e ∈ o ∨ e ∈ a ∨ e ∈ b → Zb.addr e.p n < t ∨ s ≤ Zb.addr e.p n) : filE (ltA n t) (mrgL g o a b) = filE (ltA n s) (mrgL g o a b) :=
  fil_congr fun e he => by
    obtain ⟨f, hf, e1⟩ := mem_mrg ho ha hb he
    rw [← e1]
    have := h f hf
    simp only [ltA, decide_eq_decide]
    omega
theorem filC_gap {k n t s : Nat} {o a b : List En} (ho : Et k o) (ha : Et k a) (hb : Et k b) (hts : t ≤ s) (h : ∀ e, e ∈ o ∨ e ∈ a ∨ e ∈ b → Zb.addr e.p n < t ∨ s ≤ Zb.addr e.p n) : filC (ltA n t) (clsL o a b) = filC (ltA n s) (clsL o a b) :=
  filC_congr fun e he => by
    obtain ⟨f, hf, e1⟩ := mem_cls ho ha hb he
    rw [← e1]
    have := h f hf
    simp only [ltA, decide_eq_decide]
    omega
/-- the greatest level of some -/
def LvOk (n : Nat) (rs : List (Option Nat × List En)) (m : Int) : Prop := (m = -1 ∧ ∀ x ∈ rs, x.1 = none) ∨ (m = (n : Int) ∧ ∃ x ∈ rs, x.1 ≠ none)
theorem LvOk.more_none {n : Nat} {rs : List (Option Nat × List En)} {m : Int} {l : List En} (h : LvOk n rs m) : LvOk n (rs ++ [(none, l)]) (max m (-1)) := by
  rcases h with ⟨h1, h2⟩ | ⟨h1, x, hx, h2⟩
  · refine .inl ⟨by omega, fun x hx => ?_⟩
    rcases List.mem_append.1 hx with hx | hx
    · exact h2 x hx
    · rw [List.mem_singleton.1 hx]
  · exact .inr ⟨by omega, x, List.mem_append_left _ hx, h2⟩
theorem LvOk.more_some {n b : Nat} {rs : List (Option Nat × List En)} {m : Int} {l : List En} (h : LvOk n rs m) : LvOk n (rs ++ [(some b, l)]) (max m (n : Int)) := by
  refine .inr ⟨?_, (some b, l), by simp, by simp⟩
  rcases h with ⟨h1, _⟩ | ⟨h1, _⟩ <;> omega
structure ThI (W w0 w : World) (G k : Nat) (pk : Value) (g : Clh → Option Nat) (cl : List Clh) (ro ra rb : Option Nat) (lo la lb : List En) (n : Nat) (pre : List Nat) (t : Nat) (r : Option Nat) : Prop where
  ev0 : ro ≠ none → lev lo = n + 1 ∧ preL lo = pre
  ev1 : ra ≠ none → lev la = n + 1 ∧ preL la = pre
  ev2 : rb ≠ none → lev lb = n + 1 ∧ preL lb = pre
  n64 : n < 64
  t16 : t ≤ 2 ^ k
  rt : RtN w k r (filE (ltA n t) (mrgL g lo la lb))
  inv : InvM W G k pk (cl ++ filC (ltA n t) (clsL lo la lb)) w
  km : Km w0 w
/-- three, of less -/
def ThH (W : World) (G k : Nat) (f : FuncId) (g : Clh → Option Nat) (N : Nat) : Prop := ∀ (w : World) (cl : List Clh) (ro ra rb : Option Nat) (lo la lb : List En), lo.length + la.length + lb.length < N → InvM W G k (.func (.func f) #[] #[]) cl w → RtN w k ro lo → RtN w k ra la → RtN w k rb lb → cl.length + (lo.length + la.length + lb.length) ≤ 200 →
  Calls Tryz.prog 161 #[.pointer (some ⟨G, 0, none⟩), pv ro, pv ra, pv rb] w fun e w' => ThrP W w G k (.func (.func f) #[] #[]) (mrgL g lo la lb) (cl ++ clsL lo la lb) e w'
set_option maxHeartbeats 16000000 in
theorem three_step (W w : World) (G k : Nat) (f : FuncId) (g : Clh → Option Nat) (cl : List Clh) (ro ra rb : Option Nat) (lo la lb : List En) (hP : PickOk f g) (hg : GOk g) (hi : InvM W G k (.func (.func f) #[] #[]) cl w) (h0 : RtN w k ro lo) (h1 : RtN w k ra la) (h2 : RtN w k rb lb) (k1 : 1 ≤ k) (k16 : k ≤ 16)
    (hN : cl.length + (lo.length + la.length + lb.length) ≤ 200) (ih : ThH W G k f g (lo.length + la.length + lb.length)) :
    Calls Tryz.prog 161 #[.pointer (some ⟨G, 0, none⟩), pv ro, pv ra, pv rb] w fun e w' => ThrP W w G k (.func (.func f) #[] #[]) (mrgL g lo la lb) (cl ++ clsL lo la lb) e w' := by
  have HI := Lib.hid hi
  have HR0 := Lib.hid h0
  have HR1 := Lib.hid h1
  have HR2 := Lib.hid h2
  have HK := Lib.hid (And.intro k1 k16)
  have HIH := Lib.hid ih
  have HN := Lib.hid hN
  have HAP := Lib.hid (fun w' (h : Below w.heap.size w w') => mapart_any W w' G k f g cl ro ra rb lo la lb hP hg (hi.below h) (h0.below h) (h1.below h) (h2.below h) k1 k16 h0.vals h1.vals h2.vals (by omega))
  have e1 := root_eql h1 h2
  have e2 := root_eql h2 h0
  have e3 := root_eql h1 h0
  have HU1 := Lib.hid (fun (e : ra = rb) => by subst e; exact h1.uniq h2 : ra = rb → la = lb)
  have HU2 := Lib.hid (fun (e : rb = ro) => by subst e; exact h2.uniq h0 : rb = ro → lb = lo)
  have HU3 := Lib.hid (fun (e : ra = ro) => by subst e; exact h1.uniq h0 : ra = ro → la = lo)
  obtain ⟨q0, hq0⟩ := pv_ex ro
  obtain ⟨q1, hq1⟩ := pv_ex ra
  obtain ⟨q2, hq2⟩ := pv_ex rb
  have HQE := Lib.hid (And.intro hq0 (And.intro hq1 hq2))
  rw [hq0, hq1, hq2] at HAP ⊢
  rw [hq1, hq2] at e1
  rw [hq2, hq0] at e2
  rw [hq1, hq0] at e3
  clear hP hg hi h0 h1 h2 k1 k16 hN ih hq0 hq1 hq2
  go_enter Tryz.func161, Tryz.ntmps161
  go_wp2_with fail
  refine wp_scope_jumps3 0 (fun a' w' => ∃ (n t : Nat) (pre : List Nat) (r : Option Nat) (u4 u5 u6 u7 u8 u12 u13 u14 u15 u16 u17 u18 u19 u20 u21 u22 u23 u24 u25 u26 u27 u28 u29 u30 u31 u32 u33 u34 u35 u36 u37 u38 u39 u40 u41 u42 u43 u44 u45 u46 u47 u48 u49 u50 u51 u52 u53 u54 u55 u56 u57 u58 u59 u60 u61 u62 u63 u64 u65 u66 u67 u68 u69 u70 u71 u72 u73 u74 u75 u76 u77 u78 u79 u80 u81 u82 u83 u84 u85 u86 u87 u88 u89 u90 u91 u92 u93 u94 u95 u96 u97 u98 u99 u100 u101 u102 u103 u104 u105 u106 u107 : Value), a' = { tmps := #[.pointer (some ⟨G, 0, none⟩), .pointer q0, .pointer q1, .pointer q2, u4, u5, u6, u7, u8, .int .i64 (t : Nat), pv r, .int .i64 (n : Nat), u12, u13, u14, u15, u16, u17, u18, u19, u20, u21, u22, u23, u24, u25, u26, u27, u28, u29, u30, u31, u32, u33, u34, u35, u36, u37, u38, u39, u40, u41, u42, u43, u44, u45, u46, u47, u48, u49, u50, u51, u52, u53, u54, u55, u56, u57, u58, u59, u60, u61, u62, u63, u64, u65, u66, u67, u68, u69, u70, u71, u72, u73, u74, u75, u76, u77, u78, u79, u80, u81, u82, u83, u84, u85, u86, u87, u88, u89, u90, u91, u92, u93, u94, u95, u96, u97, u98, u99, u100, u101, u102, u103, u104, u105, u106, u107], defers := [] } ∧ ThI W w w' G k (.func (.func f) #[] #[]) g cl ro ra rb lo la lb n pre t r) (fun a' _ => 65537 - (intOf (a'.tmps.getD 9 undef)).toNat) rfl ?_ ?_
  · intro a' w' hJ
    obtain ⟨n, t, pre, r, u4, u5, u6, u7, u8, u12, u13, u14, u15, u16, u17, u18, hJ⟩ := hJ
    obtain ⟨u19, u20, u21, u22, u23, u24, u25, u26, u27, u28, u29, u30, u31, u32, u33, u34, hJ⟩ := hJ
    obtain ⟨u35, u36, u37, u38, u39, u40, u41, u42, u43, u44, u45, u46, u47, u48, u49, u50, hJ⟩ := hJ
    obtain ⟨u51, u52, u53, u54, u55, u56, u57, u58, u59, u60, u61, u62, u63, u64, u65, u66, hJ⟩ := hJ
    obtain ⟨u67, u68, u69, u70, u71, u72, u73, u74, u75, u76, u77, u78, u79, u80, u81, u82, hJ⟩ := hJ
    obtain ⟨u83, u84, u85, u86, u87, u88, u89, u90, u91, u92, u93, u94, u95, u96, u97, u98, hJ⟩ := hJ
    obtain ⟨u99, u100, u101, u102, u103, u104, u105, u106, u107, hJ⟩ := hJ
    obtain ⟨rfl, hJ⟩ := hJ
    have HJ := Lib.hid hJ
    clear hJ
    go_wp2_with fail
    have hbS : Below w'.heap.size w' (w'.alloc (.cells #[.pointer q0, .pointer q1, .pointer q2] 113)) := (by repeat (first | exact Below.refl _ _ | (refine Below.drew ?_) | (refine below_drewN' ?_ _) | (refine below_alloc' ?_ _) | (refine Below.setCell ?_ (by first | exact Nat.le_refl _ | (simp; done) | (simp; omega)) _)))
    have hS := heap_alloc_new w' (.cells #[.pointer q0, .pointer q1, .pointer q2] 113)
    obtain ⟨S1, hS1⟩ : ∃ S1, w'.heap.size = S1 := ⟨_, rfl⟩
    rw [hS1] at hS ⊢
    clear hS1
    have HBS := Lib.hid hbS
    have HSS := Lib.hid hS
    clear hbS hS
    generalize w'.alloc (.cells #[.pointer q0, .pointer q1, .pointer q2] 113) = wS at *
    go_loopw [14, 15, 17, 18, 19, 66] (fun l9 an _ _ _ iv wr => ∃ (j least : Nat) (any : Bool), j ≤ 3 ∧ iv = .int .i64 (j : Nat) ∧ l9 = .int .i64 (least : Nat) ∧ an = .bool any ∧ Below w'.heap.size w' wr ∧ wr.heap[S1]? = some (.cells #[.pointer q0, .pointer q1, .pointer q2] 113 (0, 0)) ∧ LstOk k n t ([(ro, lo), (ra, la), (rb, lb)].take j) least any) (fun _ _ _ _ _ i _ => 3 - (intOf i).toNat)
    case atStart => exact ⟨0, 0, false, by omega, rfl, rfl, rfl, HBS.out, HSS.out, .inl ⟨rfl, rfl, fun x hx => by simp at hx⟩⟩
    case round =>
      obtain ⟨j, least, any, hj, rfl, rfl, rfl, hb, hS, hL⟩ := hrel
      rcases (show j < 3 ∨ j = 3 by omega) with hlt | rfl
      · have h3 : (j : Int) < 3 := by omega
        have h5 : (0 : Int) ≤ (j : Int) := by omega
        have HW := Lib.hid (show wrap64 ((j : Int) + 1) = ((j + 1 : Nat) : Int) by unfold wrap64; omega)
        obtain ⟨rj, lj, qj, hqj, k0, hrj, hej, htk⟩ : ∃ (rj : Option Nat) (lj : List En) (qj : Option Addr), pv rj = .pointer qj ∧ wr.cell? ⟨S1, j, none⟩ = some (.pointer qj) ∧ RtN w k rj lj ∧ (rj ≠ none → lev lj = n + 1 ∧ preL lj = pre) ∧ [(ro, lo), (ra, la), (rb, lb)].take (j + 1) = [(ro, lo), (ra, la), (rb, lb)].take j ++ [(rj, lj)] := by
          rcases (show j = 0 ∨ j = 1 ∨ j = 2 by omega) with rfl | rfl | rfl
          · exact ⟨ro, lo, q0, HQE.out.1, by simp [World.cell?, hS], HR0.out, HJ.out.ev0, rfl⟩
          · exact ⟨ra, la, q1, HQE.out.2.1, by simp [World.cell?, hS], HR1.out, HJ.out.ev1, rfl⟩
          · exact ⟨rb, lb, q2, HQE.out.2.2, by simp [World.cell?, hS], HR2.out, HJ.out.ev2, rfl⟩
        have HFR := Lib.hid (nfrom_n wr k n rj lj t (((HJ.out.km).trans (Km.of hb)).rtN hrj) (fun h => (hej h).1))
        rw [hqj] at HFR
        have hsl := lt_of_block hS
        have HB := Lib.hid hb
        have HS2 := Lib.hid hS
        have HTK := Lib.hid htk
        have HL := Lib.hid hL
        clear hb hS hL htk hej hrj hqj
        go_wp2_with fail
        refine HFR.out.mono ?_
        rintro e w2 ⟨hb2, hc⟩
        have HB2 := Lib.hid (And.intro (HB.out.trans (hb2.mono HB.out.size)) ((hb2.block _ (lt_of_block HS2.out)).trans HS2.out))
        clear hb2
        rcases hc with ⟨rfl, hc⟩ | ⟨i, b, rfl, hti, hik, hex, hall⟩
        · have HC := Lib.hid hc
          clear hc
          go_wp2_with fail
          go_roundw
          case rel => exact ⟨j + 1, least, any, by omega, (by first | rw [HW.out] | rfl | simp), rfl, rfl, HB2.out.1, HB2.out.2, by rw [HTK.out]; exact HL.out.more_none HC.out⟩
          case measure => (first | (rw [intOf_of' HW.out, intOf_of' rfl]; omega) | (simp [intOf]; omega) | (simp [intOf] <;> omega))
        · have HC := Lib.hid (And.intro hti (And.intro hik (And.intro hex hall)))
          clear hti hik hex hall
          cases any with
          | false =>
            go_wp2_with fail
            go_roundw
            case rel => exact ⟨j + 1, i, true, by omega, (by first | rw [HW.out] | rfl | simp), rfl, rfl, HB2.out.1, HB2.out.2, by rw [HTK.out]; exact HL.out.more_first HC.out.1 HC.out.2.1 HC.out.2.2.1 HC.out.2.2.2⟩
            case measure => (first | (rw [intOf_of' HW.out, intOf_of' rfl]; omega) | (simp [intOf]; omega) | (simp [intOf] <;> omega))
          | true =>
            by_cases hil : (i : Int) < (least : Int)
            · have hd : decide ((i : Int) < (least : Int)) = true := by simp [hil]
              have HIL := Lib.hid hil
              go_wp2_with fail
              go_roundw
              case rel => exact ⟨j + 1, i, true, by omega, (by first | rw [HW.out] | rfl | simp), rfl, rfl, HB2.out.1, HB2.out.2, by rw [HTK.out]; exact HL.out.more_less HC.out.1 HC.out.2.1 HC.out.2.2.1 HC.out.2.2.2 (by have := HIL.out; omega)⟩
              case measure => (first | (rw [intOf_of' HW.out, intOf_of' rfl]; omega) | (simp [intOf]; omega) | (simp [intOf] <;> omega))
            · have hd : decide ((i : Int) < (least : Int)) = false := by simp; omega
              have HIL := Lib.hid hil
              go_wp2_with fail
              go_roundw
              case rel => exact ⟨j + 1, least, true, by omega, (by first | rw [HW.out] | rfl | simp), rfl, rfl, HB2.out.1, HB2.out.2, by rw [HTK.out]; exact HL.out.more_more HC.out.2.2.2 (by have := HIL.out; omega)⟩
              case measure => (first | (rw [intOf_of' HW.out, intOf_of' rfl]; omega) | (simp [intOf]; omega) | (simp [intOf] <;> omega))
      · have HB := Lib.hid hb
        have HL := Lib.hid (show LstOk k n t [(ro, lo), (ra, la), (rb, lb)] least any from hL)
        clear hb hS hL
        cases any with
        | false =>
          have HALL := Lib.hid (HL.out.none_left)
          go_wp2_with fail
          simp only [Exit.jump]
          go_ret
          have e1 := filE_allR g HR0.out.et HR1.out.et HR2.out.et HALL.out
          have e2 := filC_allR HR0.out.et HR1.out.et HR2.out.et HALL.out
          refine ⟨r, rfl, ?_, ?_, HJ.out.km.trans (Km.of HB.out)⟩
          · rw [← e1]; exact HJ.out.rt.below HB.out
          · rw [← e2]; exact HJ.out.inv.below HB.out
        | true =>
          obtain ⟨ht9, hl9, hex9, hall9⟩ := HL.out.some_left
          have HLE := Lib.hid (And.intro ht9 (And.intro hl9 (And.intro hex9 hall9)))
          clear ht9 hl9 hex9 hall9
          have HK4 := Lib.hid HB.out
          have HKD0 := Lib.hid (fun W' (h : Below w'.heap.size w' W') => nkid_n W' k n ro lo least (((HJ.out.km).trans (Km.of h)).rtN HR0.out) (fun h => (HJ.out.ev0 h).1))
          have HKD1 := Lib.hid (fun W' (h : Below w'.heap.size w' W') => nkid_n W' k n ra la least (((HJ.out.km).trans (Km.of h)).rtN HR1.out) (fun h => (HJ.out.ev1 h).1))
          have HKD2 := Lib.hid (fun W' (h : Below w'.heap.size w' W') => nkid_n W' k n rb lb least (((HJ.out.km).trans (Km.of h)).rtN HR2.out) (fun h => (HJ.out.ev2 h).1))
          rw [HQE.out.1] at HKD0
          rw [HQE.out.2.1] at HKD1
          rw [HQE.out.2.2] at HKD2
          go_wp2_with fail
          refine (HKD0.out _ HK4.out).mono ?_
          rintro e w5 ⟨r0, rfl, hr0, hb5⟩
          have HK5 := Lib.hid (HK4.out.trans (hb5.mono HK4.out.size))
          have HQ0 := Lib.hid hr0
          have HS5 := Lib.hid hb5
          clear hr0 hb5
          go_wp2_with fail
          refine (HKD1.out _ HK5.out).mono ?_
          rintro e w6 ⟨r1, rfl, hr1, hb6⟩
          have HK6 := Lib.hid (HK5.out.trans (hb6.mono HK5.out.size))
          have HQ1 := Lib.hid hr1
          have HS6 := Lib.hid hb6
          clear hr1 hb6
          go_wp2_with fail
          refine (HKD2.out _ HK6.out).mono ?_
          rintro e w7 ⟨r2, rfl, hr2, hb7⟩
          have HK7 := Lib.hid (HK6.out.trans (hb7.mono HK6.out.size))
          have HQ2 := Lib.hid hr2
          have HS7 := Lib.hid hb7
          clear hr2 hb7
          go_wp2_with fail
          have a0 := HR0.out.atLev HJ.out.ev0
          have a1 := HR1.out.atLev HJ.out.ev1
          have a2 := HR2.out.atLev HJ.out.ev2
          have HAT := Lib.hid (And.intro a0 (And.intro a1 a2))
          have hlt : (filE (eqA n least) lo).length + (filE (eqA n least) la).length + (filE (eqA n least) lb).length < lo.length + la.length + lb.length := by
            have f0 := fil_len (eqA n least) lo
            have f1 := fil_len (eqA n least) la
            have f2 := fil_len (eqA n least) lb
            rcases HLE.out.2.2.1 with hne | hne | hne
            · have := fil_lt (a := least) HR0.out (fun h => (HJ.out.ev0 h).1) hne; omega
            · have := fil_lt (a := least) HR1.out (fun h => (HJ.out.ev1 h).1) hne; omega
            · have := fil_lt (a := least) HR2.out (fun h => (HJ.out.ev2 h).1) hne; omega
          have hbound : (cl ++ filC (ltA n t) (clsL lo la lb)).length + ((filE (eqA n least) lo).length + (filE (eqA n least) la).length + (filE (eqA n least) lb).length) ≤ 200 := by
            have f0 := fil_two (n := n) HLE.out.1 lo
            have f1 := fil_two (n := n) HLE.out.1 la
            have f2 := fil_two (n := n) HLE.out.1 lb
            have f3 := cls_len (filE (ltA n t) lo) (filE (ltA n t) la) (filE (ltA n t) lb)
            rw [cls_fil a0.1 a1.1 a2.1] at f3
            have := HN.out
            rw [List.length_append]
            omega
          have HCALL := Lib.hid (HIH.out w7 (cl ++ filC (ltA n t) (clsL lo la lb)) r0 r1 r2 _ _ _ hlt (HJ.out.inv.below HK7.out) ((HQ0.out.below HS6.out).below HS7.out) (HQ1.out.below HS7.out) HQ2.out hbound)
          rw [mrg_fil g a0.1 a1.1 a2.1, cls_fil a0.1 a1.1 a2.1] at HCALL
          clear a0 a1 a2 hlt hbound
          refine HCALL.out.mono ?_
          rintro e w8 ⟨r8, rfl, hr8, hi8, hk8⟩
          have HR8 := Lib.hid (And.intro hr8 (And.intro hi8 ((Km.of HK7.out).trans hk8)))
          clear hr8 hi8 hk8
          have hgE := filE_gap g HAT.out.1.1 HAT.out.2.1.1 HAT.out.2.2.1 HLE.out.1 HLE.out.2.2.2
          have hgC := filC_gap HAT.out.1.1 HAT.out.2.1.1 HAT.out.2.2.1 HLE.out.1 HLE.out.2.2.2
          have hal := AtLev.mrg (g := g) HAT.out.1 HAT.out.2.1 HAT.out.2.2
          have HWITH := Lib.hid (mwith_any w8 k n least pre r r8 (filE (ltA n least) (mrgL g lo la lb)) (filE (eqA n least) (mrgL g lo la lb)) (by rw [← hgE]; exact HR8.out.2.2.rtN HJ.out.rt) HR8.out.1 (hal.fil _) (hal.fil _) HJ.out.n64 (fun e he => of_decide_eq_true (List.mem_filter.1 he).2) (fun e he => of_decide_eq_true (List.mem_filter.1 he).2) HK.out.1 HK.out.2)
          rw [← split_lt hal.1 HJ.out.n64 hal.2] at HWITH
          have HCL := Lib.hid (show (cl ++ filC (ltA n t) (clsL lo la lb)) ++ filC (eqA n least) (clsL lo la lb) = cl ++ filC (ltA n (least + 1)) (clsL lo la lb) by
            rw [hgC, splitC_lt (cls_spec HAT.out.1.1 HAT.out.2.1.1 HAT.out.2.2.1).1 HJ.out.n64 (AtLev.cls HAT.out.1 HAT.out.2.1 HAT.out.2.2), List.append_assoc])
          clear hgE hgC hal
          go_wp2_with fail
          refine HWITH.out.mono ?_
          rintro e w9 ⟨r9, rfl, hr9, hb9⟩
          have h65 : 2 ^ k ≤ 65536 := pow_le k HK.out.2
          have HW := Lib.hid (show wrap64 ((least : Int) + 1) = ((least + 1 : Nat) : Int) by have := HLE.out.2.1; unfold wrap64; omega)
          have HMU := Lib.hid (show 65537 - (least + 1) < 65537 - t by have := HLE.out.1; have := HLE.out.2.1; omega)
          have HF := Lib.hid (show ThI W w w9 G k (.func (.func f) #[] #[]) g cl ro ra rb lo la lb n pre (least + 1) r9 from ⟨HJ.out.ev0, HJ.out.ev1, HJ.out.ev2, HJ.out.n64, HLE.out.2.1, hr9, by rw [← HCL.out]; exact HR8.out.2.1.below hb9, HJ.out.km.trans (HR8.out.2.2.trans (Km.of hb9))⟩)
          clear hr9 hb9 h65
          go_wp2_with fail
          go_step3
          rw [HW.out]
          refine ⟨rfl, ⟨n, least + 1, pre, r9, _, _, _, _, _, _, _, _, _, _, _, _, _, _, _, _, _, _, _, _, _, _, _, _, _, _, _, _, _, _, _, _, _, _, _, _, _, _, _, _, _, _, _, _, _, _, _, _, _, _, _, _, _, _, _, _, _, _, _, _, _, _, _, _, _, _, _, _, _, _, _, _, _, _, _, _, _, _, _, _, _, _, _, _, _, _, _, _, _, _, _, _, _, _, _, _, _, _, _, _, _, rfl, HF.out⟩, ?_⟩
          exact HMU.out
  · intro Q' hQ' hR
    have HR := Lib.hid hR
    have HQ' := Lib.hid hQ'
    clear hQ' hR
    by_cases c1 : ra = rb
    · rw [decide_eq_true c1] at e1
      have HC := Lib.hid (HU1.out c1)
      clear c1 e2 e3
      go_wp2_with fail
      refine HR.out _ _ ?_
      go_ret
      exact ⟨ra, by rw [HQE.out.2.1]; rfl, by rw [← HC.out, mrg_ab g HR0.out.et HR1.out.et]; exact HR1.out, by rw [← HC.out, cls_ab HR0.out.et HR1.out.et, List.append_nil]; exact HI.out, Km.refl _⟩
    rw [decide_eq_false c1] at e1
    by_cases c2 : rb = ro
    · rw [decide_eq_true c2] at e2
      have HC := Lib.hid (HU2.out c2)
      clear c1 c2 e3
      go_wp2_with fail
      refine HR.out _ _ ?_
      go_ret
      exact ⟨ra, by rw [HQE.out.2.1]; rfl, by rw [HC.out, mrg_bo g HR0.out.et HR1.out.et]; exact HR1.out, by rw [HC.out, cls_bo HR0.out.et HR1.out.et, List.append_nil]; exact HI.out, Km.refl _⟩
    rw [decide_eq_false c2] at e2
    by_cases c3 : ra = ro
    · rw [decide_eq_true c3] at e3
      have HC := Lib.hid (HU3.out c3)
      clear c1 c2 c3
      go_wp2_with fail
      refine HR.out _ _ ?_
      go_ret
      exact ⟨rb, by rw [HQE.out.2.2]; rfl, by rw [HC.out, mrg_ao g HR0.out.et HR2.out.et]; exact HR2.out, by rw [HC.out, cls_ao HR0.out.et HR2.out.et, List.append_nil]; exact HI.out, Km.refl _⟩
    rw [decide_eq_false c3] at e3
    have HNE := Lib.hid c1
    clear c1 c2 c3
    go_wp2_with fail
    have hbS : Below w.heap.size w (w.alloc (.cells #[.pointer q0, .pointer q1, .pointer q2] 113)) := (by repeat (first | exact Below.refl _ _ | (refine Below.drew ?_) | (refine below_drewN' ?_ _) | (refine below_alloc' ?_ _) | (refine Below.setCell ?_ (by first | exact Nat.le_refl _ | (simp; done) | (simp; omega)) _)))
    have HEV := Lib.hid (even_any' (w.alloc (.cells #[.pointer q0, .pointer q1, .pointer q2] 113)) k w.heap.size [(ro, lo), (ra, la), (rb, lb)] (by simp) (fun j hj => by
      match j, hj with
      | 0, _ => simp [go_sem, HQE.out.1]
      | 1, _ => simp [go_sem, HQE.out.2.1]
      | 2, _ => simp [go_sem, HQE.out.2.2]) (fun x hx => by
      simp only [List.mem_cons, List.not_mem_nil, or_false] at hx
      rcases hx with rfl | rfl | rfl
      · exact HR0.out.below hbS
      · exact HR1.out.below hbS
      · exact HR2.out.below hbS) HK.out.1 HK.out.2)
    have HBS := Lib.hid hbS
    clear hbS
    refine HEV.out.mono ?_
    rintro e w1 ⟨b, rfl, hev, hb1⟩
    have HB1 := Lib.hid (HBS.out.trans (hb1.mono HBS.out.size))
    have HE1 := Lib.hid hev
    clear hb1 hev
    cases b with
    | false =>
      go_wp2_with fail
      refine (HAP.out _ HB1.out).mono ?_
      rintro e w2 ⟨r, rfl, hr, hi2, hk2⟩
      have HF := Lib.hid (And.intro hr (And.intro hi2 ((Km.of HB1.out).trans hk2)))
      clear hr hi2 hk2
      obtain ⟨q9, hq9⟩ := pv_ex r
      have HQ9 := Lib.hid hq9
      rw [hq9]
      clear hq9
      go_wp2_with fail
      refine HR.out _ _ ?_
      go_ret
      exact ⟨r, by rw [HQ9.out]; rfl, HF.out.1, HF.out.2.1, HF.out.2.2⟩
    | true =>
      obtain ⟨n, pre, hev⟩ := HE1.out rfl
      have HEV := Lib.hid hev
      clear hev
      go_wp2_with fail
      have hbS : Below w1.heap.size w1 (w1.alloc (.cells #[.pointer q0, .pointer q1, .pointer q2] 113)) := (by repeat (first | exact Below.refl _ _ | (refine Below.drew ?_) | (refine below_drewN' ?_ _) | (refine below_alloc' ?_ _) | (refine Below.setCell ?_ (by first | exact Nat.le_refl _ | (simp; done) | (simp; omega)) _)))
      have hS := heap_alloc_new w1 (.cells #[.pointer q0, .pointer q1, .pointer q2] 113)
      obtain ⟨S1, hS1⟩ : ∃ S1, w1.heap.size = S1 := ⟨_, rfl⟩
      rw [hS1] at hS ⊢
      clear hS1
      have HBW := Lib.hid (HB1.out.trans (hbS.mono HB1.out.size))
      have HSS := Lib.hid hS
      clear hbS hS
      generalize w1.alloc (.cells #[.pointer q0, .pointer q1, .pointer q2] 113) = wS at *
      go_loopw [11, 13, 52] (fun lv _ iv wr => ∃ (j : Nat) (m : Int), j ≤ 3 ∧ iv = .int .i64 (j : Nat) ∧ lv = .int .i64 m ∧ wr = wS ∧ LvOk n ([(ro, lo), (ra, la), (rb, lb)].take j) m) (fun _ _ i _ => 3 - (intOf i).toNat)
      case atStart => exact ⟨0, -1, by omega, rfl, rfl, rfl, .inl ⟨rfl, fun x hx => by simp at hx⟩⟩
      case round =>
        obtain ⟨j, m, hj, rfl, rfl, rfl, hL⟩ := hrel
        rcases (show j < 3 ∨ j = 3 by omega) with hlt | rfl
        · have h3 : (j : Int) < 3 := by omega
          have h5 : (0 : Int) ≤ (j : Int) := by omega
          have HW := Lib.hid (show wrap64 ((j : Int) + 1) = ((j + 1 : Nat) : Int) by unfold wrap64; omega)
          obtain ⟨rj, lj, qj, hqj, k0, hrj, hej, htk⟩ : ∃ (rj : Option Nat) (lj : List En) (qj : Option Addr), pv rj = .pointer qj ∧ wr.cell? ⟨S1, j, none⟩ = some (.pointer qj) ∧ RtN w k rj lj ∧ (rj ≠ none → lev lj = n + 1 ∧ preL lj = pre) ∧ [(ro, lo), (ra, la), (rb, lb)].take (j + 1) = [(ro, lo), (ra, la), (rb, lb)].take j ++ [(rj, lj)] := by
            have hS := HSS.out
            rcases (show j = 0 ∨ j = 1 ∨ j = 2 by omega) with rfl | rfl | rfl
            · exact ⟨ro, lo, q0, HQE.out.1, by simp [World.cell?, hS], HR0.out, HEV.out (ro, lo) (by simp), rfl⟩
            · exact ⟨ra, la, q1, HQE.out.2.1, by simp [World.cell?, hS], HR1.out, HEV.out (ra, la) (by simp), rfl⟩
            · exact ⟨rb, lb, q2, HQE.out.2.2, by simp [World.cell?, hS], HR2.out, HEV.out (rb, lb) (by simp), rfl⟩
          have hsl := lt_of_block HSS.out
          have HTK := Lib.hid htk
          have HL := Lib.hid hL
          clear hL htk
          cases rj with
          | none =>
            injection hqj with hqj
            subst hqj
            clear hrj hej
            simp only [Option.map_none] at k0
            go_wp2_with fail
            refine (nlev_none _).mono ?_
            rintro e w2 ⟨rfl, hw⟩
            obtain rfl := hw.symm
            clear hw
            go_wp2_with fail
            go_roundw
            case rel => exact ⟨j + 1, max m (-1), by omega, (by first | rw [HW.out] | rfl | simp), (by first | rfl | trivial), (by first | rfl | trivial), by rw [HTK.out]; exact HL.out.more_none⟩
            case measure => (first | (rw [intOf_of' HW.out, intOf_of' rfl]; omega) | (simp [intOf]; omega) | (simp [intOf] <;> omega))
          | some b =>
            injection hqj with hqj
            subst hqj
            obtain ⟨vv, kp, hh⟩ := Nd.hd hrj
            have hlv : (lev lj : Int) - 1 = (n : Int) := by have := (hej (by simp)).1; omega
            rw [hlv] at hh
            have HLV := Lib.hid (nlev_any wr b _ (Below.keeps HBW.out _ _ hh.c0))
            clear hrj hej hh hlv
            simp only [Option.map_some] at k0
            go_wp2_with fail
            refine HLV.out.mono ?_
            rintro e w2 ⟨rfl, hw⟩
            obtain rfl := hw.symm
            clear hw
            go_wp2_with fail
            go_roundw
            case rel => exact ⟨j + 1, max m (n : Int), by omega, (by first | rw [HW.out] | rfl | simp), (by first | rfl | trivial), (by first | rfl | trivial), by rw [HTK.out]; exact HL.out.more_some⟩
            case measure => (first | (rw [intOf_of' HW.out, intOf_of' rfl]; omega) | (simp [intOf]; omega) | (simp [intOf] <;> omega))
        · have hL' : LvOk n [(ro, lo), (ra, la), (rb, lb)] m := hL
          obtain ⟨hm, hn64⟩ : m = (n : Int) ∧ n < 64 := by
            rcases hL' with ⟨_, h⟩ | ⟨h, x, hx, hn⟩
            · exact absurd ((h (ra, la) (by simp)).trans (h (rb, lb) (by simp)).symm) HNE.out
            · refine ⟨h, ?_⟩
              have h8 := (HEV.out x hx hn).1
              have h9 := lev_le x.2
              omega
          subst hm
          have HN64 := Lib.hid hn64
          clear hL hL' hn64
          go_wp2_with fail
          go_step3
          simp only [Exit.then]
          rename_i hK
          refine hK _ _ ?_
          refine HQ'.out _ _ ?_
          refine ⟨n, 0, pre, none, _, _, _, _, _, _, _, _, _, _, _, _, _, _, _, _, _, _, _, _, _, _, _, _, _, _, _, _, _, _, _, _, _, _, _, _, _, _, _, _, _, _, _, _, _, _, _, _, _, _, _, _, _, _, _, _, _, _, _, _, _, _, _, _, _, _, _, _, _, _, _, _, _, _, _, _, _, _, _, _, _, _, _, _, _, _, _, _, _, _, _, _, _, _, _, _, _, _, _, _, _, rfl, HEV.out (ro, lo) (by simp), HEV.out (ra, la) (by simp), HEV.out (rb, lb) (by simp), HN64.out, Nat.zero_le _, ?_, ?_, Km.of HBW.out⟩
          · rw [fil_none fun e _ => by simp [ltA]]; rfl
          · rw [filC_none fun e _ => by simp [ltA], List.append_nil]; exact HI.out.below HBW.out
/-- three, of any length -/
theorem three_any (W : World) (G k : Nat) (f : FuncId) (g : Clh → Option Nat) (hP : PickOk f g) (hg : GOk g) (k1 : 1 ≤ k) (k16 : k ≤ 16) : ∀ N, ThH W G k f g N := by
  intro N
  induction N with
  | zero => intro w cl ro ra rb lo la lb h; omega
  | succ N ih =>
    intro w cl ro ra rb lo la lb hlt hi h0 h1 h2 hb
    exact three_step W w G k f g cl ro ra rb lo la lb hP hg hi h0 h1 h2 k1 k16 hb fun w' cl' ro' ra' rb' lo' la' lb' h => ih w' cl' ro' ra' rb' lo' la' lb' (by omega)
end Go.Proofs.YtdkomhmciihkiaaGreat
/-! MrgJ -/
namespace Go.Proofs.YtdkomhmciihkiaaGreat
open Go.RowKit
set_option linter.unusedVariables false
set_option linter.unusedSimpArgs false
set_option maxRecDepth 100000

theorem gOk1 : GOk pk1 := fun c v h1 h2 h3 h => by
  unfold pk1 at h
  split at h
  · injection h with h; omega
  · cases h
theorem gOk5 : GOk pk5 := fun c v h1 h2 h3 h => by
  unfold pk5 at h
  split at h
  · injection h with h; omega
  · cases h
def MgdP (W : World) (k : Nat) (R : List En) (C : List Clh) (e : Ending) (w' : World) : Prop := ∃ (t : Nat) (A : Option Addr) (c : Nat), e = .returned (.tuple #[.pointer (some ⟨t, 0, none⟩), .slice A C.length c]) ∧ TrR w' t k R ∧ RdX w' (.slice A C.length c) C ∧ Below W.heap.size W w'
set_option maxHeartbeats 4000000 in
theorem merged_any (w : World) (o a b k : Nat) (f : FuncId) (g : Clh → Option Nat) (lo la lb : List En) (ho : TrR w o k lo) (ha : TrR w a k la) (hb : TrR w b k lb) (hP : PickOk f g) (hg : GOk g) (hN : lo.length + la.length + lb.length ≤ 200) :
    Calls Tryz.prog 99 #[.pointer (some ⟨o, 0, none⟩), .pointer (some ⟨a, 0, none⟩), .pointer (some ⟨b, 0, none⟩), .func (.func f) #[] #[]] w fun e w' => MgdP w k (mrgL g lo la lb) (clsL lo la lb) e w' := by
  have hbM : Below w.heap.size w (w.alloc (.cells #[.int .i64 (k : Nat), .func (.func f) #[] #[], .slice none 0 0] 248)) := (by repeat (first | exact Below.refl _ _ | (refine Below.drew ?_) | (refine below_drewN' ?_ _) | (refine below_alloc' ?_ _) | (refine Below.setCell ?_ (by first | exact Nat.le_refl _ | (simp; done) | (simp; omega)) _)))
  have HINV := Lib.hid (show InvM w w.heap.size k (.func (.func f) #[] #[]) [] (w.alloc (.cells #[.int .i64 (k : Nat), .func (.func f) #[] #[], .slice none 0 0] 248)) from ⟨.slice none 0 0, heap_alloc_new _ _, OwnX.nil _ _ _, hbM, Nat.le_refl _⟩)
  have HK0 := Lib.hid (tk_any w o k ho.c0)
  have HK1 := Lib.hid (tk_any (w.alloc (.cells #[.int .i64 (k : Nat), .func (.func f) #[] #[], .slice none 0 0] 248)) o k (Below.keeps hbM _ _ ho.c0))
  obtain ⟨r0, c0, h0⟩ := ho.c1
  obtain ⟨r1, c1, h1⟩ := ha.c1
  obtain ⟨r2, c2, h2⟩ := hb.c1
  have HTH := Lib.hid (three_any w w.heap.size k f g hP hg ho.k1 ho.k16 (lo.length + la.length + lb.length + 1) (w.alloc (.cells #[.int .i64 (k : Nat), .func (.func f) #[] #[], .slice none 0 0] 248)) [] r0 r1 r2 lo la lb (by omega) HINV.out (h0.below hbM) (h1.below hbM) (h2.below hbM) (by simp; omega))
  have HKK := Lib.hid (And.intro ho.k1 ho.k16)
  obtain ⟨q0, hq0⟩ := pv_ex r0
  obtain ⟨q1, hq1⟩ := pv_ex r1
  obtain ⟨q2, hq2⟩ := pv_ex r2
  rw [hq0, hq1, hq2] at HTH
  rw [hq0] at c0
  rw [hq1] at c1
  rw [hq2] at c2
  have HT0 := Lib.hid (troot_any (w.alloc (.cells #[.int .i64 (k : Nat), .func (.func f) #[] #[], .slice none 0 0] 248)) o q0 (Below.keeps hbM _ _ c0))
  have HT1 := Lib.hid (troot_any (w.alloc (.cells #[.int .i64 (k : Nat), .func (.func f) #[] #[], .slice none 0 0] 248)) a q1 (Below.keeps hbM _ _ c1))
  have HT2 := Lib.hid (troot_any (w.alloc (.cells #[.int .i64 (k : Nat), .func (.func f) #[] #[], .slice none 0 0] 248)) b q2 (Below.keeps hbM _ _ c2))
  have HBM := Lib.hid hbM
  clear ho ha hb hP hg hN hbM c0 h0 c1 h1 c2 h2 hq0 hq1 hq2 HINV
  go_enter Tryz.func99, Tryz.ntmps99
  go_wp2_with fail
  refine (HK0.out).mono ?_
  rintro e w9 ⟨rfl, hw⟩
  obtain rfl := hw.symm
  clear hw
  go_wp2_with fail
  obtain ⟨G, hG⟩ : ∃ G, w.heap.size = G := ⟨_, rfl⟩
  simp only [hG] at HTH HBM ⊢
  generalize w.alloc (.cells #[.int .i64 (k : Nat), .func (.func f) #[] #[], .slice none 0 0] 248) = w0 at *
  refine (HK1.out).mono ?_
  rintro e w9 ⟨rfl, hw⟩
  obtain rfl := hw.symm
  clear hw
  go_wp2_with fail
  refine (HT0.out).mono ?_
  rintro e w9 ⟨rfl, hw⟩
  obtain rfl := hw.symm
  clear hw
  go_wp2_with fail
  refine (HT1.out).mono ?_
  rintro e w9 ⟨rfl, hw⟩
  obtain rfl := hw.symm
  clear hw
  go_wp2_with fail
  refine (HT2.out).mono ?_
  rintro e w9 ⟨rfl, hw⟩
  obtain rfl := hw.symm
  clear hw
  go_wp2_with fail
  refine HTH.out.mono ?_
  rintro e w1 ⟨r, rfl, hr, hi, hk⟩
  have HI := Lib.hid hi
  have HOF := Lib.hid (of_rt w1 k r _ hr HKK.out.1 HKK.out.2)
  obtain ⟨q, hq⟩ := pv_ex r
  rw [hq] at HOF ⊢
  clear hr hi hk hq HTH
  go_wp2_with fail
  refine HOF.out.mono ?_
  rintro e w2 ⟨t, rfl, ht, hb2⟩
  have HF := Lib.hid (And.intro ht (HI.out.below hb2))
  clear ht hb2
  obtain ⟨A, c, hown, hblk, g0, g1, g2, gf⟩ := HF.out.2.cells
  have hlg := lt_of_block hblk
  have HX := Lib.hid (hown.rd fun u p h => h.rd)
  simp only [List.nil_append] at g2 HX
  clear hown hblk g0 g1 gf
  go_wp2_with fail
  go_quiet (fail)
  go_wp2_with fail
  go_ret2
  exact ⟨t, A, c, rfl, HF.out.1.bel (drewN_below _ _), HX.out.below (drewN_below _ _), HF.out.2.bel.trans ((drewN_below _ _).mono HF.out.2.bel.size)⟩
def ByP (W : World) (k : Nat) (R : List En) (C : List Clh) (e : Ending) (w' : World) : Prop := ∃ (t : Nat), e = .returned (.tuple #[.pointer (some ⟨t, 0, none⟩), .int .i64 (C.length : Nat), .int .i64 0]) ∧ TrR w' t k R ∧ Below W.heap.size W w'

set_option maxHeartbeats 2000000 in
theorem by_1 (w : World) (o a b k : Nat) (lo la lb : List En) (ho : TrR w o k lo) (ha : TrR w a k la) (hb : TrR w b k lb) (hN : lo.length + la.length + lb.length ≤ 200) :
    Calls Tryz.prog 34 #[.pointer (some ⟨o, 0, none⟩), .pointer (some ⟨a, 0, none⟩), .pointer (some ⟨b, 0, none⟩), .int .i64 1] w fun e w' => ByP w k (mrgL pk1 lo la lb) (clsL lo la lb) e w' := by
  have HC := Lib.hid (mchk_ok w o a b k lo la lb ho ha hb)
  have HM := Lib.hid (merged_any w o a b k 156 pk1 lo la lb ho ha hb pickOk1 gOk1 hN)
  clear ho ha hb hN
  go_enter Tryz.func34, Tryz.ntmps34
  go_wp2_with fail
  refine (HC.out).mono ?_
  rintro e w9 ⟨rfl, hw⟩
  obtain rfl := hw.symm
  clear hw
  go_wp2_with fail
  refine (picks_1 w).mono ?_
  rintro e w9 ⟨rfl, hw⟩
  obtain rfl := hw.symm
  clear hw
  go_wp2_with fail
  refine HM.out.mono ?_
  rintro e w1 ⟨t, A, c, rfl, ht, hx, hb1⟩
  have HF := Lib.hid (And.intro ht hb1)
  clear ht hb1 hx
  go_wp2_with fail
  refine bodyPost_ret (v := .tuple #[.pointer (some ⟨t, 0, none⟩), .int .i64 ((clsL lo la lb).length : Nat), .int .i64 0]) (by simp [results, Tryz.results34, go_sem]) rfl ⟨t, rfl, HF.out.1, HF.out.2⟩

set_option maxHeartbeats 2000000 in
theorem by_5 (w : World) (o a b k : Nat) (lo la lb : List En) (ho : TrR w o k lo) (ha : TrR w a k la) (hb : TrR w b k lb) (hN : lo.length + la.length + lb.length ≤ 200) :
    Calls Tryz.prog 34 #[.pointer (some ⟨o, 0, none⟩), .pointer (some ⟨a, 0, none⟩), .pointer (some ⟨b, 0, none⟩), .int .i64 5] w fun e w' => ByP w k (mrgL pk5 lo la lb) (clsL lo la lb) e w' := by
  have HC := Lib.hid (mchk_ok w o a b k lo la lb ho ha hb)
  have HM := Lib.hid (merged_any w o a b k 160 pk5 lo la lb ho ha hb pickOk5 gOk5 hN)
  clear ho ha hb hN
  go_enter Tryz.func34, Tryz.ntmps34
  go_wp2_with fail
  refine (HC.out).mono ?_
  rintro e w9 ⟨rfl, hw⟩
  obtain rfl := hw.symm
  clear hw
  go_wp2_with fail
  refine (picks_5 w).mono ?_
  rintro e w9 ⟨rfl, hw⟩
  obtain rfl := hw.symm
  clear hw
  go_wp2_with fail
  refine HM.out.mono ?_
  rintro e w1 ⟨t, A, c, rfl, ht, hx, hb1⟩
  have HF := Lib.hid (And.intro ht hb1)
  clear ht hb1 hx
  go_wp2_with fail
  refine bodyPost_ret (v := .tuple #[.pointer (some ⟨t, 0, none⟩), .int .i64 ((clsL lo la lb).length : Nat), .int .i64 0]) (by simp [results, Tryz.results34, go_sem]) rfl ⟨t, rfl, HF.out.1, HF.out.2⟩

theorem by_err (w : World) (p q s : Option Addr) (r c : Int) (hc : c ≠ 0) (HC : Calls Tryz.prog 97 #[.pointer p, .pointer q, .pointer s] w fun e w' => e = .returned (.int .i64 c) ∧ w' = w) :
    Calls Tryz.prog 34 #[.pointer p, .pointer q, .pointer s, .int .i64 r] w fun e w' => e = .returned (.tuple #[.pointer none, .int .i64 0, .int .i64 c]) ∧ w' = w := by
  have HC := Lib.hid HC
  have hc' : (c != 0) = true := by simp [hc]
  go_enter Tryz.func34, Tryz.ntmps34
  go_wp2_with fail
  refine (HC.out).mono ?_
  rintro e w9 ⟨rfl, hw⟩
  obtain rfl := hw.symm
  clear hw
  go_wp2_with fail
  refine bodyPost_ret (v := .tuple #[.pointer none, .int .i64 0, .int .i64 c]) (by simp [results, Tryz.results34, go_sem]) rfl ⟨rfl, rfl⟩
def ClsP (W : World) (C : List Clh) (e : Ending) (w' : World) : Prop := ∃ (A : Option Addr) (c : Nat), e = .returned (.tuple #[.slice A C.length c, .int .i64 0]) ∧ RdX w' (.slice A C.length c) C ∧ Below W.heap.size W w'
set_option maxHeartbeats 2000000 in
theorem clashes_any (w : World) (o a b k : Nat) (lo la lb : List En) (ho : TrR w o k lo) (ha : TrR w a k la) (hb : TrR w b k lb) (hN : lo.length + la.length + lb.length ≤ 200) :
    Calls Tryz.prog 33 #[.pointer (some ⟨o, 0, none⟩), .pointer (some ⟨a, 0, none⟩), .pointer (some ⟨b, 0, none⟩)] w fun e w' => ClsP w (clsL lo la lb) e w' := by
  have HC := Lib.hid (mchk_ok w o a b k lo la lb ho ha hb)
  have HM := Lib.hid (merged_any w o a b k 156 pk1 lo la lb ho ha hb pickOk1 gOk1 hN)
  clear ho ha hb hN
  go_enter Tryz.func33, Tryz.ntmps33
  go_wp2_with fail
  refine (HC.out).mono ?_
  rintro e w9 ⟨rfl, hw⟩
  obtain rfl := hw.symm
  clear hw
  go_wp2_with fail
  refine (picks_1 w).mono ?_
  rintro e w9 ⟨rfl, hw⟩
  obtain rfl := hw.symm
  clear hw
  go_wp2_with fail
  refine HM.out.mono ?_
  rintro e w1 ⟨t, A, c, rfl, ht, hx, hb1⟩
  have HF := Lib.hid (And.intro hx hb1)
  clear ht hb1 hx
  go_wp2_with fail
  go_ret2
  exact ⟨A, c, rfl, HF.out.1, HF.out.2⟩
theorem clashes_err (w : World) (p q s : Option Addr) (c : Int) (hc : c ≠ 0) (HC : Calls Tryz.prog 97 #[.pointer p, .pointer q, .pointer s] w fun e w' => e = .returned (.int .i64 c) ∧ w' = w) :
    Calls Tryz.prog 33 #[.pointer p, .pointer q, .pointer s] w fun e w' => e = .returned (.tuple #[.slice none 0 0, .int .i64 c]) ∧ w' = w := by
  have HC := Lib.hid HC
  have hc' : (c != 0) = true := by simp [hc]
  go_enter Tryz.func33, Tryz.ntmps33
  go_wp2_with fail
  refine (HC.out).mono ?_
  rintro e w9 ⟨rfl, hw⟩
  obtain rfl := hw.symm
  clear hw
  go_wp2_with fail
  go_ret2
  exact ⟨rfl, rfl⟩
end Go.Proofs.YtdkomhmciihkiaaGreat
/-! EditB -/
namespace Go.Proofs.YtdkomhmciihkiaaGreat
open Go.RowKit
set_option linter.unusedVariables false
set_option linter.unusedSimpArgs false

theorem apart1_any (w : World) (p : Option Ch × Option Ch) (px py : Value) (hx : PtrC w px p.1) (hy : PtrC w py p.2) :
    Calls Tryz.prog 153 #[px, py] w fun e w' => e = .returned (.bool (apartC p)) ∧ w' = w := by
  obtain ⟨p1, p2⟩ := p
  cases p1 with
  | none =>
    obtain rfl : px = .pointer none := hx
    have HE := Lib.hid (show apartC (none, p2) = true by cases p2 <;> rfl)
    rw [HE.out]
    go_enter Tryz.func153, Tryz.ntmps153
    go_wp2_with fail
    go_ret
    exact ⟨rfl, rfl⟩
  | some x =>
    obtain ⟨b, o, rfl, _⟩ := hx
    cases p2 with
    | none =>
      obtain rfl : py = .pointer none := hy
      have HE := Lib.hid (show apartC (some x, none) = true from rfl)
      rw [HE.out]
      go_enter Tryz.func153, Tryz.ntmps153
      go_wp2_with fail
      go_ret
      exact ⟨rfl, rfl⟩
    | some y =>
      obtain ⟨b2, o2, rfl, _⟩ := hy
      have HE := Lib.hid (show apartC (some x, some y) = false from rfl)
      rw [HE.out]
      go_enter Tryz.func153, Tryz.ntmps153
      go_wp2_with fail
      go_ret
      exact ⟨rfl, rfl⟩

def okV (r x : Bool) : Bool := r && x
def okC (r : Bool) : Int := if r then 0 else 9
def ApP (W : World) (k : Int) (a b : List Ch) (e : Ending) (w' : World) : Prop :=
  e = .returned (.tuple #[.bool (okV (rightL k a && rightL k b) (apartL a b)), .int .i64 (okC (rightL k a && rightL k b))]) ∧ Below W.heap.size W w'

set_option maxRecDepth 8000 in
set_option maxHeartbeats 1000000 in
theorem eApart_any (k : Int) (a b : List Ch) (va vb : Value) (w : World) (ha : RdC w va a ∧ CapOk va) (hb : RdC w vb b ∧ CapOk vb) (na : a.length ≤ 400) (nb : b.length ≤ 400) (oa : OkC a) (ob : OkC b) :
    Calls Tryz.prog 95 #[.int .i64 k, va, vb] w fun e w' => ApP w k a b e w' := by
  have H1 := Lib.hid (eRight_any k a va w ha.1 (by omega) oa)
  have H2 := Lib.hid (fun (w' : World) (h : RdC w' vb b) => eRight_any k b vb w' h (by omega) ob)
  have HR := Lib.hid (And.intro ha hb)
  have HO := Lib.hid (And.intro oa (And.intro ob (And.intro na nb)))
  clear ha hb na nb oa ob
  unfold ApP
  cases r1 : rightL k a with
  | false =>
    rw [r1] at H1
    rw [show okV (false && rightL k b) (apartL a b) = false from rfl, show okC (false && rightL k b) = 9 from rfl]
    clear r1 H2 HO
    go_enter Tryz.func95, Tryz.ntmps95
    go_wp2_with fail
    refine H1.out.mono ?_
    rintro e w1 ⟨rfl, hb1⟩
    go_wp2_with fail
    go_ret2
    exact ⟨rfl, hb1⟩
  | true =>
    rw [r1] at H1
    cases r2 : rightL k b with
    | false =>
      rw [r2] at H2
      rw [show okV (true && false) (apartL a b) = false from rfl, show okC (true && false) = 9 from rfl]
      clear r1 r2 HO
      go_enter Tryz.func95, Tryz.ntmps95
      go_wp2_with fail
      refine H1.out.mono ?_
      rintro e w1 ⟨rfl, hb1⟩
      have HB1 := Lib.hid hb1
      clear hb1
      go_wp2_with fail
      refine (H2.out _ (HR.out.2.1.below HB1.out)).mono ?_
      rintro e w2 ⟨rfl, hb2⟩
      have HB2 := Lib.hid (HB1.out.trans (hb2.mono HB1.out.size))
      clear hb2
      go_wp2_with fail
      go_ret2
      exact ⟨rfl, HB2.out⟩
    | true =>
      rw [r2] at H2
      obtain ⟨n, rfl, n1, n16, ra⟩ := rightL_rt HO.out.1 r1
      obtain ⟨n', e', _, _, rb⟩ := rightL_rt HO.out.2.1 r2
      obtain rfl : n' = n := by omega
      rw [show okV (true && true) (apartL a b) = apartL a b by unfold okV; simp, show okC (true && true) = 0 from rfl]
      have HP := Lib.hid (fun (w' : World) (hbw : Below w.heap.size w w') => pairs_any w w' 153 #[] apartC (fun _ _ => True) a b va vb n' ra rb ⟨n1, n16⟩ (by have := HO.out.2.2; omega) (enters_func Tryz.func153 (by kernel_rfl) (by kernel_rfl))
        (fun d p px py w2 _ hb2 hx hy _ _ _ _ => (apart1_any w2 p px py hx hy).mono fun e w3 ⟨h1, h2⟩ => ⟨h1, fun _ => trivial, by rw [h2]; exact hb2⟩) (fun _ _ _ _ => trivial) trivial hbw HR.out.1 HR.out.2)
      clear ra rb r1 r2 e' n1 n16
      go_enter Tryz.func95, Tryz.ntmps95
      go_wp2_with fail
      refine H1.out.mono ?_
      rintro e w1 ⟨rfl, hb1⟩
      have HB1 := Lib.hid hb1
      clear hb1
      go_wp2_with fail
      refine (H2.out _ (HR.out.2.1.below HB1.out)).mono ?_
      rintro e w2 ⟨rfl, hb2⟩
      have HB2 := Lib.hid (HB1.out.trans (hb2.mono HB1.out.size))
      clear hb2
      go_wp2_with fail
      refine (HP.out _ HB2.out).mono ?_
      rintro e w3 ⟨rfl, _, hb3⟩
      go_wp2_with fail
      go_ret2
      exact ⟨rfl, hb3⟩

end Go.Proofs.YtdkomhmciihkiaaGreat
/-! DifN -/
namespace Go.Proofs.YtdkomhmciihkiaaGreat
open Go.RowKit
set_option linter.unusedVariables false
set_option linter.unusedSimpArgs false
set_option maxRecDepth 100000

end Go.Proofs.YtdkomhmciihkiaaGreat
