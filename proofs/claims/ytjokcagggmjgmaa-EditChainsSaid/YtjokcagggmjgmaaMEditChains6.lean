/-
  Texts that the proof of EditChains leans on, part 6: contracts of functions, and plain laws.
-/
import Derived.Test.YtjokcagggmjgmaaMEditChains5
import Derived.Deep.Slices
import Derived.Deep.Fields
import Derived.ChangeSame
import Derived.ProofKit
import Derived.OpenShut
/-! DifH -/
namespace Go.Proofs.Ytjokcagggmjgmaa
open Go.RowKit
set_option linter.unusedVariables false
set_option linter.unusedSimpArgs false
set_option maxRecDepth 100000

set_option maxHeartbeats 32000000 in
theorem both_eq (W w : World) (B k ba bb : Nat) (la lb : List En) (d : List Ch) (hW : W.heap.size ≤ B) (k1 : 1 ≤ k) (k16 : k ≤ 16) (ha : Nd W k ba la) (hb : Nd W k bb lb) (hne : ba ≠ bb) (hi : InvT W B d w) (hN : d.length + la.length + lb.length ≤ 10000) (ih : BoIH W B k (la.length + lb.length)) (hlv : lev la = lev lb) :
    Calls Try.prog 48 #[SV B, .pointer (some ⟨ba, 0, none⟩), .pointer (some ⟨bb, 0, none⟩)] w fun e w' => StP W B (d ++ changesL la lb) w e w' := by
  obtain ⟨vA, kpA, hhA⟩ := ha.hd
  obtain ⟨vB, kpB, hhB⟩ := hb.hd
  obtain ⟨pA1, pA2, pA3⟩ := ha.pre_ok
  obtain ⟨pB1, pB2, pB3⟩ := hb.pre_ok
  obtain ⟨uA, cA1, cA2⟩ := hhA.c1
  obtain ⟨uB, cB1, cB2⟩ := hhB.c1
  have hLA := fun w' (h : Below W.heap.size W w') => nlev_any w' ba _ (Below.keeps h _ _ hhA.c0)
  have hLB := fun w' (h : Below W.heap.size W w') => nlev_any w' bb _ (Below.keeps h _ _ hhB.c0)
  obtain ⟨lvA, hlA⟩ : ∃ lv : Int, (lev la : Int) - 1 = lv := ⟨_, rfl⟩
  obtain ⟨lvB, hlB⟩ : ∃ lv : Int, (lev lb : Int) - 1 = lv := ⟨_, rfl⟩
  rw [hlA] at hLA
  rw [hlB] at hLB
  have HLA := Lib.hid hLA
  have HLB := Lib.hid hLB
  have HPA := Lib.hid (fun w' (h : Below W.heap.size W w') => npref_any w' ba (preL la) uA (Below.keeps h _ _ cA1) (cA2.below h) (by omega) (by omega))
  have HPB := Lib.hid (fun w' (h : Below W.heap.size W w') => npref_any w' bb (preL lb) uB (Below.keeps h _ _ cB1) (cB2.below h) (by omega) (by omega))
  have HCA := Lib.hid (fun w' u (h : Below W.heap.size W w') (hu : RdU w' u (pti (preL lb))) => ncov_any w' k ba la (preL lb) u (ha.bel h) hu pB1 pB2 k1 k16)
  have HCB := Lib.hid (fun w' u (h : Below W.heap.size W w') (hu : RdU w' u (pti (preL la))) => ncov_any w' k bb lb (preL la) u (hb.bel h) hu pA1 pA2 k1 k16)
  obtain ⟨prA, hprA⟩ : ∃ p, preL la = p := ⟨_, rfl⟩
  obtain ⟨prB, hprB⟩ : ∃ p, preL lb = p := ⟨_, rfl⟩
  rw [hprA] at HPA HCB
  rw [hprB] at HPB HCA
  have HI := Lib.hid hi
  have hE := fun (h1 : lev la = lev lb) (h2 : cov la (preL lb) = true) (w' : World) (h : InvT W B d w') => even_any W w' B k ba bb la lb d hW k1 k16 ha hb h1 h2 h hN ih
  have hORD := apart_any ha hb
  have HAB := Lib.hid (And.intro ha hb)
  have HD := Lib.hid (And.intro hW (And.intro k1 (And.intro k16 hN)))
  have HLV := Lib.hid (And.intro hlA hlB)
  have HPR := Lib.hid (And.intro hprA hprB)
  have hbx : Below w.heap.size w (((w.alloc (.cells #[.func (.func 47) #[] #[.pointer (some ⟨B, 0, none⟩)]] 94)).alloc (.cells #[.pointer (some ⟨ba, 0, none⟩)] 62)).alloc (.cells #[.pointer (some ⟨bb, 0, none⟩)] 62)) := (by repeat (first | exact Below.refl _ _ | (refine Below.drew ?_) | (refine below_drewN' ?_ _) | (refine below_alloc' ?_ _) | (refine Below.setCell ?_ (by first | exact Nat.le_refl _ | (simp; done) | (simp; omega)) _)))
  have he := node_other (ha.bel (hi.bel.trans (hbx.mono hi.bel.size))) (hb.bel (hi.bel.trans (hbx.mono hi.bel.size))) hne
  have HBX := Lib.hid hbx
  have HALA := Lib.hid (fun (w' : World) (d' : List Ch) (h : InvT W B d' w') (hl : d'.length + la.length ≤ 10000) => dAll_any W w' B k (some ba) la d' _ _ as_gone hW ha k1 k16 h hl)
  have HALB := Lib.hid (fun (w' : World) (d' : List Ch) (h : InvT W B d' w') (hl : d'.length + lb.length ≤ 10000) => dAll_any W w' B k (some bb) lb d' _ _ as_come hW hb k1 k16 h hl)
  have L1 := Lib.hid (show d.length + la.length ≤ 10000 from by omega)
  have L2 := Lib.hid (show (d ++ la.map goneC).length + lb.length ≤ 10000 from by rw [List.length_append, List.length_map]; omega)
  have L3 := Lib.hid (show d.length + lb.length ≤ 10000 from by omega)
  have L4 := Lib.hid (show (d ++ lb.map comeC).length + la.length ≤ 10000 from by rw [List.length_append, List.length_map]; omega)
  have HCMP := Lib.hid (fun (w' : World) (u v : Value) (hu : RdU w' u (pti (preL la))) (hv : RdU w' v (pti (preL lb))) => zCmp_any (preL la) (preL lb) u v w' hu hv (by rw [pA1, pB1]) (by omega) (by omega) pA2 pB2)
  obtain ⟨z, hz0⟩ : ∃ z, Zb.cmp (preL la) (preL lb) = z := ⟨_, rfl⟩
  rw [hz0] at HCMP hORD
  rw [hprA, hprB] at HCMP
  rw [hprA, hprB] at hORD
  rw [hprB] at hE
  have hc0 : lvA = lvB := by omega
  have HCM := Lib.hid (show lvA = lvB ∧ (lvA == lvB) = true from ⟨hc0, by simp [hc0]⟩)
  have HG1 := Lib.hid (show ¬ lvA > lvB ∧ decide (lvA > lvB) = false from ⟨by omega, by simp [hc0]⟩)
  have HG2 := Lib.hid (show ¬ lvB > lvA ∧ decide (lvB > lvA) = false from ⟨by omega, by simp [hc0]⟩)
  clear hc0
  obtain ⟨cv, hcv⟩ : ∃ cv, cov la prB = cv := ⟨_, rfl⟩
  rw [hcv] at HCA hORD hE
  have HEV := Lib.hid (fun (h : cv = true) => hE hlv h)
  have HOR := Lib.hid (fun (h : cv = false) => hORD (Or.inl ⟨Nat.le_of_eq hlv.symm, h⟩))
  clear hcv
  clear hlv ha hb hne hi hN hW k1 k16 hhA hhB pA1 pA2 pA3 pB1 pB2 pB3 cA1 cA2 cB1 cB2 hLA hLB hlA hlB hprA hprB hbx hE hORD ih hz0
  go_enter Try.func48, Try.ntmps48
  go_wp2_with fail
  have hBl := Exists.choose_spec (InvT.blkB HI.out)
  have HBS := Lib.hid (lt_of_block hBl)
  have hs0 : (((w.alloc (.cells #[.func (.func 47) #[] #[.pointer (some ⟨B, 0, none⟩)]] 94)).alloc (.cells #[.pointer (some ⟨ba, 0, none⟩)] 62)).alloc (.cells #[.pointer (some ⟨bb, 0, none⟩)] 62)).heap[w.heap.size]? = some (.cells #[.func (.func 47) #[] #[.pointer (some ⟨B, 0, none⟩)]] 94 (0, 0)) := (((by repeat (first | exact Below.refl _ _ | (refine Below.drew ?_) | (refine below_drewN' ?_ _) | (refine below_alloc' ?_ _) | (refine Below.setCell ?_ (by first | exact Nat.le_refl _ | (simp; done) | (simp; omega)) _))) : Below (w.alloc (.cells #[.func (.func 47) #[] #[.pointer (some ⟨B, 0, none⟩)]] 94)).heap.size (w.alloc (.cells #[.func (.func 47) #[] #[.pointer (some ⟨B, 0, none⟩)]] 94)) _).block _ (by simp)).trans (alloc_blk _ _)
  have ha0 : (((w.alloc (.cells #[.func (.func 47) #[] #[.pointer (some ⟨B, 0, none⟩)]] 94)).alloc (.cells #[.pointer (some ⟨ba, 0, none⟩)] 62)).alloc (.cells #[.pointer (some ⟨bb, 0, none⟩)] 62)).heap[w.heap.size + 1]? = some (.cells #[.pointer (some ⟨ba, 0, none⟩)] 62 (0, 0)) := (((by repeat (first | exact Below.refl _ _ | (refine Below.drew ?_) | (refine below_drewN' ?_ _) | (refine below_alloc' ?_ _) | (refine Below.setCell ?_ (by first | exact Nat.le_refl _ | (simp; done) | (simp; omega)) _))) : Below ((w.alloc (.cells #[.func (.func 47) #[] #[.pointer (some ⟨B, 0, none⟩)]] 94)).alloc (.cells #[.pointer (some ⟨ba, 0, none⟩)] 62)).heap.size ((w.alloc (.cells #[.func (.func 47) #[] #[.pointer (some ⟨B, 0, none⟩)]] 94)).alloc (.cells #[.pointer (some ⟨ba, 0, none⟩)] 62)) _).block _ (by simp)).trans (by have := alloc_blk (w.alloc (.cells #[.func (.func 47) #[] #[.pointer (some ⟨B, 0, none⟩)]] 94)) (.cells #[.pointer (some ⟨ba, 0, none⟩)] 62); simpa using this)
  have hb0 : (((w.alloc (.cells #[.func (.func 47) #[] #[.pointer (some ⟨B, 0, none⟩)]] 94)).alloc (.cells #[.pointer (some ⟨ba, 0, none⟩)] 62)).alloc (.cells #[.pointer (some ⟨bb, 0, none⟩)] 62)).heap[w.heap.size + 1 + 1]? = some (.cells #[.pointer (some ⟨bb, 0, none⟩)] 62 (0, 0)) := by have := alloc_blk ((w.alloc (.cells #[.func (.func 47) #[] #[.pointer (some ⟨B, 0, none⟩)]] 94)).alloc (.cells #[.pointer (some ⟨ba, 0, none⟩)] 62)) (.cells #[.pointer (some ⟨bb, 0, none⟩)] 62); simpa using this
  have HBW0 := Lib.hid (HI.out.bel.trans (HBX.out.mono HI.out.bel.size))
  have HIX := Lib.hid (HI.out.step HBX.out)
  have HKX := Lib.hid (Kp.of (B := B) HBX.out)
  obtain ⟨sb, hsb⟩ : ∃ sb, w.heap.size = sb := ⟨_, rfl⟩
  obtain ⟨ab, hab⟩ : ∃ ab, w.heap.size + 1 = ab := ⟨_, rfl⟩
  obtain ⟨bx, hbxx⟩ : ∃ bx, w.heap.size + 1 + 1 = bx := ⟨_, rfl⟩
  have HNB := Lib.hid (show sb ≠ B ∧ ab ≠ B ∧ bx ≠ B from by have := HBS.out; omega)
  rw [hsb] at hs0
  rw [hab] at ha0
  rw [hbxx] at hb0
  rw [hbxx, hab, hsb]
  clear hsb hab hbxx he HBX hBl
  generalize ((w.alloc (.cells #[.func (.func 47) #[] #[.pointer (some ⟨B, 0, none⟩)]] 94)).alloc (.cells #[.pointer (some ⟨ba, 0, none⟩)] 62)).alloc (.cells #[.pointer (some ⟨bb, 0, none⟩)] 62) = wx at *
  have HS := Lib.hid (show BoS W w B sb ab bx ba bb d wx from ⟨HBW0.out, HIX.out, HKX.out, hs0, ha0, hb0⟩)
  clear hs0 ha0 hb0 HBW0 HIX HKX HBS
  have HN3 := HNB
  clear HNB
  have hcmp := HCM.out.1
  have hcmpb := HCM.out.2
  have HBW := Lib.hid HS.out.bel
  have kA := cell_of_one HS.out.ha
  have kB := cell_of_one HS.out.hb
  have kS := cell_of_one HS.out.hs
  have lA := lt_of_block HS.out.ha
  have lB := lt_of_block HS.out.hb
  have lS := lt_of_block HS.out.hs
  refine wp_region_vals 10 [fun z9 _ => z9 = .pointer (some ⟨ba, 0, none⟩),
    fun z9 _ => z9 = .int .i64 lvA,
    fun z9 _ => z9 = .pointer (some ⟨bb, 0, none⟩),
    fun z9 _ => z9 = .int .i64 lvB,
    fun z9 _ => z9 = .bool true,
    fun z9 _ => z9 = .bool true,
    fun z9 _ => z9 = .pointer (some ⟨ba, 0, none⟩),
    fun z9 _ => z9 = .pointer (some ⟨bb, 0, none⟩),
    fun v9 w9 => PtNew w9 v9 prB,
    fun z9 _ => z9 = .bool cv]
    (by kernel_rfl) (by kernel_rfl) (by kernel_rfl) (by kernel_rfl) ?_ ?_ ?_
  · intro V hV v w1 w2 h hb
    simp only [List.mem_cons, List.not_mem_nil, or_false] at hV
    rcases hV with rfl | rfl | rfl | rfl | rfl | rfl | rfl | rfl | rfl | rfl
    all_goals first | exact h | (exact PtNew.below h hb)
  · intro iq oq hiq hoq
    match iq, hiq with
    | 0, _ =>
    obtain rfl := Option.some.inj hoq
    intro a1 w1 K hk hK
    have e4 : a1.tmps.getD 4 undef = .pointer (some ⟨ab, 0, none⟩) := hk.same 4 (by simp)
    have c0 : w1.cell? ⟨ab, 0, none⟩ = some (.pointer (some ⟨ba, 0, none⟩)) := Below.keeps hk.ext _ _ (by simp [go_sem, kA, kB, hcmp, hcmpb])
    have c1 : w1.cell? ⟨bx, 0, none⟩ = some (.pointer (some ⟨bb, 0, none⟩)) := Below.keeps hk.ext _ _ (by simp [go_sem, kA, kB, hcmp, hcmpb])
    simp [Region.wanted, Oper.wp, Act.eval, go_sem, e4, c0, c1, kA, kB, hcmp, hcmpb]
    exact hK _ _ (Below.refl _ _) rfl
    | 1, _ =>
    obtain rfl := Option.some.inj hoq
    intro a1 w1 K hk hK
    have d51 : a1.tmps.getD 51 undef = .pointer (some ⟨ba, 0, none⟩) := hk.deps ⟨0, .data⟩ (by simp) rfl _ _ rfl rfl
    simp [Region.wanted, Oper.wp, Act.eval, go_sem, d51, kA, kB, hcmp, hcmpb]
    refine (HLA.out _ (HBW.out.trans ((below_trans (by repeat (first | exact Below.refl _ _ | (refine Below.drew ?_) | (refine below_drewN' ?_ _) | (refine below_alloc' ?_ _) | (refine Below.setCell ?_ (by first | exact Nat.le_refl _ | (simp; done) | (simp; omega)) _))) hk.ext).mono HBW.out.size))).mono ?_
    rintro e w9 ⟨rfl, hw9⟩
    exact hK _ _ (by rw [hw9]; exact Below.refl _ _) rfl
    | 2, _ =>
    obtain rfl := Option.some.inj hoq
    intro a1 w1 K hk hK
    have e5 : a1.tmps.getD 5 undef = .pointer (some ⟨bx, 0, none⟩) := hk.same 5 (by simp)
    have c0 : w1.cell? ⟨ab, 0, none⟩ = some (.pointer (some ⟨ba, 0, none⟩)) := Below.keeps hk.ext _ _ (by simp [go_sem, kA, kB, hcmp, hcmpb])
    have c1 : w1.cell? ⟨bx, 0, none⟩ = some (.pointer (some ⟨bb, 0, none⟩)) := Below.keeps hk.ext _ _ (by simp [go_sem, kA, kB, hcmp, hcmpb])
    simp [Region.wanted, Oper.wp, Act.eval, go_sem, e5, c0, c1, kA, kB, hcmp, hcmpb]
    exact hK _ _ (Below.refl _ _) rfl
    | 3, _ =>
    obtain rfl := Option.some.inj hoq
    intro a1 w1 K hk hK
    have d53 : a1.tmps.getD 53 undef = .pointer (some ⟨bb, 0, none⟩) := hk.deps ⟨2, .data⟩ (by simp) rfl _ _ rfl rfl
    simp [Region.wanted, Oper.wp, Act.eval, go_sem, d53, kA, kB, hcmp, hcmpb]
    refine (HLB.out _ (HBW.out.trans ((below_trans (by repeat (first | exact Below.refl _ _ | (refine Below.drew ?_) | (refine below_drewN' ?_ _) | (refine below_alloc' ?_ _) | (refine Below.setCell ?_ (by first | exact Nat.le_refl _ | (simp; done) | (simp; omega)) _))) hk.ext).mono HBW.out.size))).mono ?_
    rintro e w9 ⟨rfl, hw9⟩
    exact hK _ _ (by rw [hw9]; exact Below.refl _ _) rfl
    | 4, _ =>
    obtain rfl := Option.some.inj hoq
    intro a1 w1 K hk hK
    have d52 : a1.tmps.getD 52 undef = .int .i64 lvA := hk.deps ⟨1, .data⟩ (by simp) rfl _ _ rfl rfl
    have d54 : a1.tmps.getD 54 undef = .int .i64 lvB := hk.deps ⟨3, .data⟩ (by simp) rfl _ _ rfl rfl
    simp [Region.wanted, Oper.wp, Act.eval, go_sem, d52, d54, kA, kB, hcmp, hcmpb]
    exact hK _ _ (Below.refl _ _) rfl
    | 5, _ =>
    obtain rfl := Option.some.inj hoq
    intro a1 w1 K hk hK
    have d55 : a1.tmps.getD 55 undef = .bool true := hk.deps ⟨4, .data⟩ (by simp) rfl _ _ rfl rfl
    simp [Region.wanted, Oper.wp, Act.eval, go_sem, d55, kA, kB, hcmp, hcmpb]
    exact hK _ _ (Below.refl _ _) rfl
    | 6, _ =>
    obtain rfl := Option.some.inj hoq
    intro a1 w1 K hk hK
    have e4 : a1.tmps.getD 4 undef = .pointer (some ⟨ab, 0, none⟩) := hk.same 4 (by simp)
    have gd : a1.tmps[56]? = some (.bool true) := getD_bool (hk.deps ⟨5, .guard⟩ (by simp) rfl _ _ rfl rfl)
    have c0 : w1.cell? ⟨ab, 0, none⟩ = some (.pointer (some ⟨ba, 0, none⟩)) := Below.keeps hk.ext _ _ (by simp [go_sem, kA, kB, hcmp, hcmpb])
    have c1 : w1.cell? ⟨bx, 0, none⟩ = some (.pointer (some ⟨bb, 0, none⟩)) := Below.keeps hk.ext _ _ (by simp [go_sem, kA, kB, hcmp, hcmpb])
    simp [Region.wanted, Oper.wp, Act.eval, go_sem, e4, gd, yielded, c0, c1, kA, kB, hcmp, hcmpb]
    exact hK _ _ (Below.refl _ _) rfl
    | 7, _ =>
    obtain rfl := Option.some.inj hoq
    intro a1 w1 K hk hK
    have e5 : a1.tmps.getD 5 undef = .pointer (some ⟨bx, 0, none⟩) := hk.same 5 (by simp)
    have gd : a1.tmps[56]? = some (.bool true) := getD_bool (hk.deps ⟨5, .guard⟩ (by simp) rfl _ _ rfl rfl)
    have c0 : w1.cell? ⟨ab, 0, none⟩ = some (.pointer (some ⟨ba, 0, none⟩)) := Below.keeps hk.ext _ _ (by simp [go_sem, kA, kB, hcmp, hcmpb])
    have c1 : w1.cell? ⟨bx, 0, none⟩ = some (.pointer (some ⟨bb, 0, none⟩)) := Below.keeps hk.ext _ _ (by simp [go_sem, kA, kB, hcmp, hcmpb])
    simp [Region.wanted, Oper.wp, Act.eval, go_sem, e5, gd, yielded, c0, c1, kA, kB, hcmp, hcmpb]
    exact hK _ _ (Below.refl _ _) rfl
    | 8, _ =>
    obtain rfl := Option.some.inj hoq
    intro a1 w1 K hk hK
    have d58 : a1.tmps.getD 58 undef = .pointer (some ⟨bb, 0, none⟩) := hk.deps ⟨7, .data⟩ (by simp) rfl _ _ rfl rfl
    have gd : a1.tmps[56]? = some (.bool true) := getD_bool (hk.deps ⟨5, .guard⟩ (by simp) rfl _ _ rfl rfl)
    simp [Region.wanted, Oper.wp, Act.eval, go_sem, d58, gd, yielded, kA, kB, hcmp, hcmpb]
    refine (HPB.out _ (HBW.out.trans ((below_trans (by repeat (first | exact Below.refl _ _ | (refine Below.drew ?_) | (refine below_drewN' ?_ _) | (refine below_alloc' ?_ _) | (refine Below.setCell ?_ (by first | exact Nat.le_refl _ | (simp; done) | (simp; omega)) _))) hk.ext).mono HBW.out.size))).mono ?_
    rintro e w9 ⟨u9, rfl, h9, hb9⟩
    exact hK _ _ hb9 h9
    | 9, _ =>
    obtain rfl := Option.some.inj hoq
    intro a1 w1 K hk hK
    have d57 : a1.tmps.getD 57 undef = .pointer (some ⟨ba, 0, none⟩) := hk.deps ⟨6, .data⟩ (by simp) rfl _ _ rfl rfl
    have D59 : PtNew w1 (a1.tmps.getD 59 undef) prB := hk.deps ⟨8, .data⟩ (by simp) rfl _ _ rfl rfl
    have gd : a1.tmps[56]? = some (.bool true) := getD_bool (hk.deps ⟨5, .guard⟩ (by simp) rfl _ _ rfl rfl)
    obtain ⟨A9, c9, eP, _⟩ := RdU.point D59.rd
    have ePx : a1.tmps[59]?.getD undef = .slice A9 prB.length c9 := by rw [← eP]; simp
    rw [eP] at D59
    simp [Region.wanted, Oper.wp, Act.eval, go_sem, d57, eP, ePx, gd, yielded, kA, kB]
    refine (HCA.out _ _ (HBW.out.trans ((below_trans (by repeat (first | exact Below.refl _ _ | (refine Below.drew ?_) | (refine below_drewN' ?_ _) | (refine below_alloc' ?_ _) | (refine Below.setCell ?_ (by first | exact Nat.le_refl _ | (simp; done) | (simp; omega)) _))) hk.ext).mono HBW.out.size)) D59.rd).mono ?_
    rintro e w9 ⟨rfl, hw9⟩
    exact hK _ _ (by rw [hw9]; exact Below.refl _ _) rfl
  · intro vs w3 hl hb3 hv
    match vs, hl with
    | [v0, v1, v2, v3, v4, v5, v6, v7, v8, v9], _ =>
    obtain rfl : v0 = .pointer (some ⟨ba, 0, none⟩) := hv 0 (by omega)
    obtain rfl : v1 = .int .i64 lvA := hv 1 (by omega)
    obtain rfl : v2 = .pointer (some ⟨bb, 0, none⟩) := hv 2 (by omega)
    obtain rfl : v3 = .int .i64 lvB := hv 3 (by omega)
    obtain rfl : v4 = .bool true := hv 4 (by omega)
    obtain rfl : v5 = .bool true := hv 5 (by omega)
    obtain rfl : v6 = .pointer (some ⟨ba, 0, none⟩) := hv 6 (by omega)
    obtain rfl : v7 = .pointer (some ⟨bb, 0, none⟩) := hv 7 (by omega)
    have q8 : PtNew w3 v8 prB := hv 8 (by omega)
    obtain rfl : v9 = .bool cv := hv 9 (by omega)
    clear hv
    simp only [putAll, List.take_succ_cons, List.take_zero, List.drop_succ_cons, List.drop_zero, Act.put, List.setIfInBounds_toArray, List.set_cons_succ, List.set_cons_zero]
    have HS2 := Lib.hid (HS.out.step hb3)
    clear hb3 HS HBW kA kB kS lA lB lS
    have HS := Lib.hid HS2.out
    clear HS2
    clear q8
    clear hcmp hcmpb HCM
    cases cv with
    | true =>
      have HBW := Lib.hid HS.out.bel
      have kA := cell_of_one HS.out.ha
      have kB := cell_of_one HS.out.hb
      have kS := cell_of_one HS.out.hs
      have lA := lt_of_block HS.out.ha
      have lB := lt_of_block HS.out.hb
      have lS := lt_of_block HS.out.hs
      have HV := Lib.hid (HEV.out rfl _ HS.out.inv)
      go_wp2_with fail
      refine HV.out.mono ?_
      rintro e w7 ⟨rfl, hi7, hk7⟩
      have HF := Lib.hid (And.intro hi7 (HS.out.kp.trans hk7))
      clear hi7 hk7
      go_wp2_with fail
      go_end0
      exact ⟨rfl, HF.out⟩
    | false =>
      have HORD := Lib.hid (HOR.out rfl)
      clear HOR HEV
      have hg := HG1.out.1
      have hgb := HG1.out.2
      have HBW := Lib.hid HS.out.bel
      have kA := cell_of_one HS.out.ha
      have kB := cell_of_one HS.out.hb
      have kS := cell_of_one HS.out.hs
      have lA := lt_of_block HS.out.ha
      have lB := lt_of_block HS.out.hb
      have lS := lt_of_block HS.out.hs
      go_wp2_with fail
      go_quiet ((go_at_call 61; first | with_reducible exact Calls.quiet_of_same (HLA.out _ (below_drewN' HBW.out _)) | with_reducible exact Calls.quiet_of_same (HLB.out _ (below_drewN' HBW.out _))))
      go_wp2_with fail
      refine stayC ?_
      intro wq hwq
      have HS2 := Lib.hid (HS.out.step (show Below _ _ wq from by rw [hwq]; exact (by repeat (first | exact Below.refl _ _ | (refine below_drewN' ?_ _)))))
      clear hwq HS HBW kA kB kS lA lB lS
      have HS := Lib.hid HS2.out
      clear HS2
      clear hg hgb
      have hg := HG2.out.1
      have hgb := HG2.out.2
      have HBW := Lib.hid HS.out.bel
      have kA := cell_of_one HS.out.ha
      have kB := cell_of_one HS.out.hb
      have kS := cell_of_one HS.out.hs
      have lA := lt_of_block HS.out.ha
      have lB := lt_of_block HS.out.hb
      have lS := lt_of_block HS.out.hs
      go_quiet ((go_at_call 61; first | with_reducible exact Calls.quiet_of_same (HLA.out _ (below_drewN' HBW.out _)) | with_reducible exact Calls.quiet_of_same (HLB.out _ (below_drewN' HBW.out _))))
      go_wp2_with fail
      refine stayC ?_
      intro wq hwq
      have HS2 := Lib.hid (HS.out.step (show Below _ _ wq from by rw [hwq]; exact (by repeat (first | exact Below.refl _ _ | (refine below_drewN' ?_ _)))))
      clear hwq HS HBW kA kB kS lA lB lS
      have HS := Lib.hid HS2.out
      clear HS2
      clear hg hgb
      go_wp2_with fail
      have HBW := Lib.hid HS.out.bel
      have kA := cell_of_one HS.out.ha
      have kB := cell_of_one HS.out.hb
      have kS := cell_of_one HS.out.hs
      have lA := lt_of_block HS.out.ha
      have lB := lt_of_block HS.out.hb
      have lS := lt_of_block HS.out.hs
      refine wp_region_vals 9 [fun z9 _ => z9 = .pointer (some ⟨ba, 0, none⟩),
        fun v9 w9 => PtNew w9 v9 prA,
        fun z9 _ => z9 = .pointer (some ⟨bb, 0, none⟩),
        fun v9 w9 => PtNew w9 v9 prB,
        fun z9 _ => z9 = .tuple #[.int .i64 z, .int .i64 0],
        fun z9 _ => z9 = .tuple #[.int .i64 z, .int .i64 0],
        fun z9 _ => z9 = .int .i64 z,
        fun z9 _ => z9 = .int .i64 0,
        fun z9 _ => z9 = .int .i64 z]
        (by kernel_rfl) (by kernel_rfl) (by kernel_rfl) (by kernel_rfl) ?_ ?_ ?_
      · intro V hV v w1 w2 h hb
        simp only [List.mem_cons, List.not_mem_nil, or_false] at hV
        rcases hV with rfl | rfl | rfl | rfl | rfl | rfl | rfl | rfl | rfl
        all_goals first | exact h | (exact PtNew.below h hb)
      · intro iq oq hiq hoq
        match iq, hiq with
        | 0, _ =>
        obtain rfl := Option.some.inj hoq
        intro a1 w1 K hk hK
        have e4 : a1.tmps.getD 4 undef = .pointer (some ⟨ab, 0, none⟩) := hk.same 4 (by simp)
        have c0 : w1.cell? ⟨ab, 0, none⟩ = some (.pointer (some ⟨ba, 0, none⟩)) := Below.keeps hk.ext _ _ (by simp [go_sem, kA, kB])
        have c1 : w1.cell? ⟨bx, 0, none⟩ = some (.pointer (some ⟨bb, 0, none⟩)) := Below.keeps hk.ext _ _ (by simp [go_sem, kA, kB])
        simp [Region.wanted, Oper.wp, Act.eval, go_sem, e4, c0, c1, kA, kB]
        exact hK _ _ (Below.refl _ _) rfl
        | 1, _ =>
        obtain rfl := Option.some.inj hoq
        intro a1 w1 K hk hK
        have d13 : a1.tmps.getD 13 undef = .pointer (some ⟨ba, 0, none⟩) := hk.deps ⟨0, .data⟩ (by simp) rfl _ _ rfl rfl
        simp [Region.wanted, Oper.wp, Act.eval, go_sem, d13, kA, kB]
        refine (HPA.out _ (HBW.out.trans ((below_trans (by repeat (first | exact Below.refl _ _ | (refine Below.drew ?_) | (refine below_drewN' ?_ _) | (refine below_alloc' ?_ _) | (refine Below.setCell ?_ (by first | exact Nat.le_refl _ | (simp; done) | (simp; omega)) _))) hk.ext).mono HBW.out.size))).mono ?_
        rintro e w9 ⟨u9, rfl, h9, hb9⟩
        exact hK _ _ hb9 h9
        | 2, _ =>
        obtain rfl := Option.some.inj hoq
        intro a1 w1 K hk hK
        have e5 : a1.tmps.getD 5 undef = .pointer (some ⟨bx, 0, none⟩) := hk.same 5 (by simp)
        have c0 : w1.cell? ⟨ab, 0, none⟩ = some (.pointer (some ⟨ba, 0, none⟩)) := Below.keeps hk.ext _ _ (by simp [go_sem, kA, kB])
        have c1 : w1.cell? ⟨bx, 0, none⟩ = some (.pointer (some ⟨bb, 0, none⟩)) := Below.keeps hk.ext _ _ (by simp [go_sem, kA, kB])
        simp [Region.wanted, Oper.wp, Act.eval, go_sem, e5, c0, c1, kA, kB]
        exact hK _ _ (Below.refl _ _) rfl
        | 3, _ =>
        obtain rfl := Option.some.inj hoq
        intro a1 w1 K hk hK
        have d15 : a1.tmps.getD 15 undef = .pointer (some ⟨bb, 0, none⟩) := hk.deps ⟨2, .data⟩ (by simp) rfl _ _ rfl rfl
        simp [Region.wanted, Oper.wp, Act.eval, go_sem, d15, kA, kB]
        refine (HPB.out _ (HBW.out.trans ((below_trans (by repeat (first | exact Below.refl _ _ | (refine Below.drew ?_) | (refine below_drewN' ?_ _) | (refine below_alloc' ?_ _) | (refine Below.setCell ?_ (by first | exact Nat.le_refl _ | (simp; done) | (simp; omega)) _))) hk.ext).mono HBW.out.size))).mono ?_
        rintro e w9 ⟨u9, rfl, h9, hb9⟩
        exact hK _ _ hb9 h9
        | 4, _ =>
        obtain rfl := Option.some.inj hoq
        intro a1 w1 K hk hK
        have D14 : PtNew w1 (a1.tmps.getD 14 undef) prA := hk.deps ⟨1, .data⟩ (by simp) rfl _ _ rfl rfl
        have D16 : PtNew w1 (a1.tmps.getD 16 undef) prB := hk.deps ⟨3, .data⟩ (by simp) rfl _ _ rfl rfl
        obtain ⟨AP, cP, eP, _⟩ := RdU.point D14.rd
        have ePx : a1.tmps[14]?.getD undef = .slice AP prA.length cP := by rw [← eP]; simp
        rw [eP] at D14
        obtain ⟨AQ, cQ, eQ, _⟩ := RdU.point D16.rd
        have eQx : a1.tmps[16]?.getD undef = .slice AQ prB.length cQ := by rw [← eQ]; simp
        rw [eQ] at D16
        simp [Region.wanted, Oper.wp, Act.eval, go_sem, eP, ePx, eQ, eQx, kA, kB]
        refine (HCMP.out _ _ _ D14.rd D16.rd).mono ?_
        rintro e w9 ⟨rfl, hw9⟩
        exact hK _ _ (by rw [hw9]; exact Below.refl _ _) rfl
        | 5, _ =>
        obtain rfl := Option.some.inj hoq
        intro a1 w1 K hk hK
        have d17 : a1.tmps.getD 17 undef = .tuple #[.int .i64 z, .int .i64 0] := hk.deps ⟨4, .data⟩ (by simp) rfl _ _ rfl rfl
        simp [Region.wanted, Oper.wp, Act.eval, go_sem, d17, kA, kB]
        exact hK _ _ (Below.refl _ _) rfl
        | 6, _ =>
        obtain rfl := Option.some.inj hoq
        intro a1 w1 K hk hK
        have d12 : a1.tmps.getD 12 undef = .tuple #[.int .i64 z, .int .i64 0] := hk.deps ⟨5, .data⟩ (by simp) rfl _ _ rfl rfl
        simp [Region.wanted, Oper.wp, Act.eval, go_sem, d12, kA, kB]
        exact hK _ _ (Below.refl _ _) rfl
        | 7, _ =>
        obtain rfl := Option.some.inj hoq
        intro a1 w1 K hk hK
        have d12 : a1.tmps.getD 12 undef = .tuple #[.int .i64 z, .int .i64 0] := hk.deps ⟨5, .data⟩ (by simp) rfl _ _ rfl rfl
        simp [Region.wanted, Oper.wp, Act.eval, go_sem, d12, kA, kB]
        exact hK _ _ (Below.refl _ _) rfl
        | 8, _ =>
        obtain rfl := Option.some.inj hoq
        intro a1 w1 K hk hK
        have d18 : a1.tmps.getD 18 undef = .int .i64 z := hk.deps ⟨6, .data⟩ (by simp) rfl _ _ rfl rfl
        simp [Region.wanted, Oper.wp, Act.eval, go_sem, d18, kA, kB]
        exact hK _ _ (Below.refl _ _) rfl
      · intro vs w3 hl hb3 hv
        match vs, hl with
        | [v0, v1, v2, v3, v4, v5, v6, v7, v8], _ =>
        obtain rfl : v0 = .pointer (some ⟨ba, 0, none⟩) := hv 0 (by omega)
        have q1 : PtNew w3 v1 prA := hv 1 (by omega)
        obtain rfl : v2 = .pointer (some ⟨bb, 0, none⟩) := hv 2 (by omega)
        have q3 : PtNew w3 v3 prB := hv 3 (by omega)
        obtain rfl : v4 = .tuple #[.int .i64 z, .int .i64 0] := hv 4 (by omega)
        obtain rfl : v5 = .tuple #[.int .i64 z, .int .i64 0] := hv 5 (by omega)
        obtain rfl : v6 = .int .i64 z := hv 6 (by omega)
        obtain rfl : v7 = .int .i64 0 := hv 7 (by omega)
        obtain rfl : v8 = .int .i64 z := hv 8 (by omega)
        clear hv
        simp only [putAll, List.take_succ_cons, List.take_zero, List.drop_succ_cons, List.drop_zero, Act.put, List.setIfInBounds_toArray, List.set_cons_succ, List.set_cons_zero]
        have HS2 := Lib.hid (HS.out.step hb3)
        clear hb3 HS HBW kA kB kS lA lB lS
        have HS := Lib.hid HS2.out
        clear HS2
        clear q1 q3
        by_cases hz : z < 0
        · have HE := Lib.hid (HORD.out.1 (by omega))
          have HBW := Lib.hid HS.out.bel
          have kA := cell_of_one HS.out.ha
          have kB := cell_of_one HS.out.hb
          have kS := cell_of_one HS.out.hs
          have lA := lt_of_block HS.out.ha
          have lB := lt_of_block HS.out.hb
          have lS := lt_of_block HS.out.hs
          go_wp2_with fail
          refine (HALA.out _ _ HS.out.inv L1.out).mono ?_
          rintro e w7 ⟨rfl, hi7, hk7⟩
          have HS2 := Lib.hid (HS.out.go HN3.out hi7 hk7)
          clear hi7 hk7 HBW kA kB kS lA lB lS
          have kA := cell_of_one HS2.out.ha
          have kB := cell_of_one HS2.out.hb
          have kS := cell_of_one HS2.out.hs
          have lA := lt_of_block HS2.out.ha
          have lB := lt_of_block HS2.out.hb
          have lS := lt_of_block HS2.out.hs
          go_wp2_with fail
          refine (HALB.out _ _ HS2.out.inv L2.out).mono ?_
          rintro e w8 ⟨rfl, hi8, hk8⟩
          have HF := Lib.hid (And.intro hi8 (HS2.out.kp.trans hk8))
          clear hi8 hk8
          go_wp2_with fail
          go_end0
          rw [HE.out, ← List.append_assoc]
          exact ⟨rfl, HF.out⟩
        · have HE := Lib.hid (HORD.out.2 (by omega))
          have HBW := Lib.hid HS.out.bel
          have kA := cell_of_one HS.out.ha
          have kB := cell_of_one HS.out.hb
          have kS := cell_of_one HS.out.hs
          have lA := lt_of_block HS.out.ha
          have lB := lt_of_block HS.out.hb
          have lS := lt_of_block HS.out.hs
          go_wp2_with fail
          refine (HALB.out _ _ HS.out.inv L3.out).mono ?_
          rintro e w7 ⟨rfl, hi7, hk7⟩
          have HS2 := Lib.hid (HS.out.go HN3.out hi7 hk7)
          clear hi7 hk7 HBW kA kB kS lA lB lS
          have kA := cell_of_one HS2.out.ha
          have kB := cell_of_one HS2.out.hb
          have kS := cell_of_one HS2.out.hs
          have lA := lt_of_block HS2.out.ha
          have lB := lt_of_block HS2.out.hb
          have lS := lt_of_block HS2.out.hs
          go_wp2_with fail
          refine (HALA.out _ _ HS2.out.inv L4.out).mono ?_
          rintro e w8 ⟨rfl, hi8, hk8⟩
          have HF := Lib.hid (And.intro hi8 (HS2.out.kp.trans hk8))
          clear hi8 hk8
          go_wp2_with fail
          go_end0
          rw [HE.out, ← List.append_assoc]
          exact ⟨rfl, HF.out⟩
end Go.Proofs.Ytjokcagggmjgmaa
/-! DifJ -/
namespace Go.Proofs.Ytjokcagggmjgmaa
open Go.RowKit
set_option linter.unusedVariables false
set_option linter.unusedSimpArgs false
set_option maxRecDepth 100000

set_option maxHeartbeats 32000000 in
theorem both_gt (W w : World) (B k ba bb : Nat) (la lb : List En) (d : List Ch) (hW : W.heap.size ≤ B) (k1 : 1 ≤ k) (k16 : k ≤ 16) (ha : Nd W k ba la) (hb : Nd W k bb lb) (hne : ba ≠ bb) (hi : InvT W B d w) (hN : d.length + la.length + lb.length ≤ 10000) (ih : BoIH W B k (la.length + lb.length)) (hlv : lev lb < lev la) :
    Calls Try.prog 48 #[SV B, .pointer (some ⟨ba, 0, none⟩), .pointer (some ⟨bb, 0, none⟩)] w fun e w' => StP W B (d ++ changesL la lb) w e w' := by
  obtain ⟨vA, kpA, hhA⟩ := ha.hd
  obtain ⟨vB, kpB, hhB⟩ := hb.hd
  obtain ⟨pA1, pA2, pA3⟩ := ha.pre_ok
  obtain ⟨pB1, pB2, pB3⟩ := hb.pre_ok
  obtain ⟨uA, cA1, cA2⟩ := hhA.c1
  obtain ⟨uB, cB1, cB2⟩ := hhB.c1
  have hLA := fun w' (h : Below W.heap.size W w') => nlev_any w' ba _ (Below.keeps h _ _ hhA.c0)
  have hLB := fun w' (h : Below W.heap.size W w') => nlev_any w' bb _ (Below.keeps h _ _ hhB.c0)
  obtain ⟨lvA, hlA⟩ : ∃ lv : Int, (lev la : Int) - 1 = lv := ⟨_, rfl⟩
  obtain ⟨lvB, hlB⟩ : ∃ lv : Int, (lev lb : Int) - 1 = lv := ⟨_, rfl⟩
  rw [hlA] at hLA
  rw [hlB] at hLB
  have HLA := Lib.hid hLA
  have HLB := Lib.hid hLB
  have HPA := Lib.hid (fun w' (h : Below W.heap.size W w') => npref_any w' ba (preL la) uA (Below.keeps h _ _ cA1) (cA2.below h) (by omega) (by omega))
  have HPB := Lib.hid (fun w' (h : Below W.heap.size W w') => npref_any w' bb (preL lb) uB (Below.keeps h _ _ cB1) (cB2.below h) (by omega) (by omega))
  have HCA := Lib.hid (fun w' u (h : Below W.heap.size W w') (hu : RdU w' u (pti (preL lb))) => ncov_any w' k ba la (preL lb) u (ha.bel h) hu pB1 pB2 k1 k16)
  have HCB := Lib.hid (fun w' u (h : Below W.heap.size W w') (hu : RdU w' u (pti (preL la))) => ncov_any w' k bb lb (preL la) u (hb.bel h) hu pA1 pA2 k1 k16)
  obtain ⟨prA, hprA⟩ : ∃ p, preL la = p := ⟨_, rfl⟩
  obtain ⟨prB, hprB⟩ : ∃ p, preL lb = p := ⟨_, rfl⟩
  rw [hprA] at HPA HCB
  rw [hprB] at HPB HCA
  have HI := Lib.hid hi
  have hE := fun (h1 : lev la = lev lb) (h2 : cov la (preL lb) = true) (w' : World) (h : InvT W B d w') => even_any W w' B k ba bb la lb d hW k1 k16 ha hb h1 h2 h hN ih
  have hORD := apart_any ha hb
  have HAB := Lib.hid (And.intro ha hb)
  have HD := Lib.hid (And.intro hW (And.intro k1 (And.intro k16 hN)))
  have HLV := Lib.hid (And.intro hlA hlB)
  have HPR := Lib.hid (And.intro hprA hprB)
  have hbx : Below w.heap.size w (((w.alloc (.cells #[.func (.func 47) #[] #[.pointer (some ⟨B, 0, none⟩)]] 94)).alloc (.cells #[.pointer (some ⟨ba, 0, none⟩)] 62)).alloc (.cells #[.pointer (some ⟨bb, 0, none⟩)] 62)) := (by repeat (first | exact Below.refl _ _ | (refine Below.drew ?_) | (refine below_drewN' ?_ _) | (refine below_alloc' ?_ _) | (refine Below.setCell ?_ (by first | exact Nat.le_refl _ | (simp; done) | (simp; omega)) _)))
  have he := node_other (ha.bel (hi.bel.trans (hbx.mono hi.bel.size))) (hb.bel (hi.bel.trans (hbx.mono hi.bel.size))) hne
  have HBX := Lib.hid hbx
  have HALA := Lib.hid (fun (w' : World) (d' : List Ch) (h : InvT W B d' w') (hl : d'.length + la.length ≤ 10000) => dAll_any W w' B k (some ba) la d' _ _ as_gone hW ha k1 k16 h hl)
  have HALB := Lib.hid (fun (w' : World) (d' : List Ch) (h : InvT W B d' w') (hl : d'.length + lb.length ≤ 10000) => dAll_any W w' B k (some bb) lb d' _ _ as_come hW hb k1 k16 h hl)
  have L1 := Lib.hid (show d.length + la.length ≤ 10000 from by omega)
  have L2 := Lib.hid (show (d ++ la.map goneC).length + lb.length ≤ 10000 from by rw [List.length_append, List.length_map]; omega)
  have L3 := Lib.hid (show d.length + lb.length ≤ 10000 from by omega)
  have L4 := Lib.hid (show (d ++ lb.map comeC).length + la.length ≤ 10000 from by rw [List.length_append, List.length_map]; omega)
  have HCMP := Lib.hid (fun (w' : World) (u v : Value) (hu : RdU w' u (pti (preL la))) (hv : RdU w' v (pti (preL lb))) => zCmp_any (preL la) (preL lb) u v w' hu hv (by rw [pA1, pB1]) (by omega) (by omega) pA2 pB2)
  obtain ⟨z, hz0⟩ : ∃ z, Zb.cmp (preL la) (preL lb) = z := ⟨_, rfl⟩
  rw [hz0] at HCMP hORD
  rw [hprA, hprB] at HCMP
  rw [hprA, hprB] at hORD
  rw [hprB] at hE
  obtain ⟨adr, hadr⟩ : ∃ a, Zb.addr (preL lb) (lev la - 1) = a := ⟨_, rfl⟩
  have hADR := fun (w' : World) (u : Value) (hu : RdU w' u (pti (preL lb))) => zAddr_any (preL lb) (lev la - 1) u w' hu (by rw [pB1]; omega) (by rw [pB1]; omega) pB2 (by obtain ⟨s, n, pre, ks, h1, h2, h3, h4, h5, h6, h7⟩ := lev_pos_node ha (by omega); have := h4.n64; omega)
  rw [hadr] at hADR
  rw [show ((lev la - 1 : Nat) : Int) = lvA from by omega] at hADR
  have HADR := Lib.hid hADR
  rw [hprB] at HADR
  clear hADR
  have HG0 := Lib.hid (show ¬ lvA = lvB ∧ (lvA == lvB) = false from ⟨by omega, by simp; omega⟩)
  have HCM := Lib.hid (show lvA > lvB ∧ decide (lvA > lvB) = true from ⟨by omega, by simp; omega⟩)
  have HG2 := Lib.hid (show ¬ lvB > lvA ∧ decide (lvB > lvA) = false from ⟨by omega, by simp; omega⟩)
  obtain ⟨cv, hcv⟩ : ∃ cv, cov la prB = cv := ⟨_, rfl⟩
  have hbes := fun (h : cv = true) (w' : World) (sb ab bx : Nat) (hs : BoS W w B sb ab bx ba bb d w') (hn : sb ≠ B ∧ ab ≠ B ∧ bx ≠ B) => bes_gone W w w' B k ba bb sb ab bx la lb d hW k1 k16 ha hb hlv (by rw [hprB, hcv, h]) hs hn hN ih
  rw [hadr] at hbes
  rw [hcv] at HCA hORD
  have HBES := Lib.hid hbes
  have HOR := Lib.hid (fun (h : cv = false) => hORD (Or.inl ⟨Nat.le_of_lt hlv, h⟩))
  clear hadr
  clear hlv ha hb hne hi hN hW k1 k16 hhA hhB pA1 pA2 pA3 pB1 pB2 pB3 cA1 cA2 cB1 cB2 hLA hLB hlA hlB hprA hprB hbx hE hORD ih hz0 hcv hbes
  go_enter Try.func48, Try.ntmps48
  go_wp2_with fail
  have hBl := Exists.choose_spec (InvT.blkB HI.out)
  have HBS := Lib.hid (lt_of_block hBl)
  have hs0 : (((w.alloc (.cells #[.func (.func 47) #[] #[.pointer (some ⟨B, 0, none⟩)]] 94)).alloc (.cells #[.pointer (some ⟨ba, 0, none⟩)] 62)).alloc (.cells #[.pointer (some ⟨bb, 0, none⟩)] 62)).heap[w.heap.size]? = some (.cells #[.func (.func 47) #[] #[.pointer (some ⟨B, 0, none⟩)]] 94 (0, 0)) := (((by repeat (first | exact Below.refl _ _ | (refine Below.drew ?_) | (refine below_drewN' ?_ _) | (refine below_alloc' ?_ _) | (refine Below.setCell ?_ (by first | exact Nat.le_refl _ | (simp; done) | (simp; omega)) _))) : Below (w.alloc (.cells #[.func (.func 47) #[] #[.pointer (some ⟨B, 0, none⟩)]] 94)).heap.size (w.alloc (.cells #[.func (.func 47) #[] #[.pointer (some ⟨B, 0, none⟩)]] 94)) _).block _ (by simp)).trans (alloc_blk _ _)
  have ha0 : (((w.alloc (.cells #[.func (.func 47) #[] #[.pointer (some ⟨B, 0, none⟩)]] 94)).alloc (.cells #[.pointer (some ⟨ba, 0, none⟩)] 62)).alloc (.cells #[.pointer (some ⟨bb, 0, none⟩)] 62)).heap[w.heap.size + 1]? = some (.cells #[.pointer (some ⟨ba, 0, none⟩)] 62 (0, 0)) := (((by repeat (first | exact Below.refl _ _ | (refine Below.drew ?_) | (refine below_drewN' ?_ _) | (refine below_alloc' ?_ _) | (refine Below.setCell ?_ (by first | exact Nat.le_refl _ | (simp; done) | (simp; omega)) _))) : Below ((w.alloc (.cells #[.func (.func 47) #[] #[.pointer (some ⟨B, 0, none⟩)]] 94)).alloc (.cells #[.pointer (some ⟨ba, 0, none⟩)] 62)).heap.size ((w.alloc (.cells #[.func (.func 47) #[] #[.pointer (some ⟨B, 0, none⟩)]] 94)).alloc (.cells #[.pointer (some ⟨ba, 0, none⟩)] 62)) _).block _ (by simp)).trans (by have := alloc_blk (w.alloc (.cells #[.func (.func 47) #[] #[.pointer (some ⟨B, 0, none⟩)]] 94)) (.cells #[.pointer (some ⟨ba, 0, none⟩)] 62); simpa using this)
  have hb0 : (((w.alloc (.cells #[.func (.func 47) #[] #[.pointer (some ⟨B, 0, none⟩)]] 94)).alloc (.cells #[.pointer (some ⟨ba, 0, none⟩)] 62)).alloc (.cells #[.pointer (some ⟨bb, 0, none⟩)] 62)).heap[w.heap.size + 1 + 1]? = some (.cells #[.pointer (some ⟨bb, 0, none⟩)] 62 (0, 0)) := by have := alloc_blk ((w.alloc (.cells #[.func (.func 47) #[] #[.pointer (some ⟨B, 0, none⟩)]] 94)).alloc (.cells #[.pointer (some ⟨ba, 0, none⟩)] 62)) (.cells #[.pointer (some ⟨bb, 0, none⟩)] 62); simpa using this
  have HBW0 := Lib.hid (HI.out.bel.trans (HBX.out.mono HI.out.bel.size))
  have HIX := Lib.hid (HI.out.step HBX.out)
  have HKX := Lib.hid (Kp.of (B := B) HBX.out)
  obtain ⟨sb, hsb⟩ : ∃ sb, w.heap.size = sb := ⟨_, rfl⟩
  obtain ⟨ab, hab⟩ : ∃ ab, w.heap.size + 1 = ab := ⟨_, rfl⟩
  obtain ⟨bx, hbxx⟩ : ∃ bx, w.heap.size + 1 + 1 = bx := ⟨_, rfl⟩
  have HNB := Lib.hid (show sb ≠ B ∧ ab ≠ B ∧ bx ≠ B from by have := HBS.out; omega)
  rw [hsb] at hs0
  rw [hab] at ha0
  rw [hbxx] at hb0
  rw [hbxx, hab, hsb]
  clear hsb hab hbxx he HBX hBl
  generalize ((w.alloc (.cells #[.func (.func 47) #[] #[.pointer (some ⟨B, 0, none⟩)]] 94)).alloc (.cells #[.pointer (some ⟨ba, 0, none⟩)] 62)).alloc (.cells #[.pointer (some ⟨bb, 0, none⟩)] 62) = wx at *
  have HS := Lib.hid (show BoS W w B sb ab bx ba bb d wx from ⟨HBW0.out, HIX.out, HKX.out, hs0, ha0, hb0⟩)
  clear hs0 ha0 hb0 HBW0 HIX HKX HBS
  have HN3 := HNB
  clear HNB
  have hg := HG0.out.1
  have hgb := HG0.out.2
  have HBW := Lib.hid HS.out.bel
  have kA := cell_of_one HS.out.ha
  have kB := cell_of_one HS.out.hb
  have kS := cell_of_one HS.out.hs
  have lA := lt_of_block HS.out.ha
  have lB := lt_of_block HS.out.hb
  have lS := lt_of_block HS.out.hs
  go_wp2_with fail
  go_quiet ((go_at_call 61; first | with_reducible exact Calls.quiet_of_same (HLA.out _ (below_drewN' HBW.out _)) | with_reducible exact Calls.quiet_of_same (HLB.out _ (below_drewN' HBW.out _))))
  go_wp2_with fail
  refine stayC ?_
  intro wq hwq
  have HS2 := Lib.hid (HS.out.step (show Below _ _ wq from by rw [hwq]; exact (by repeat (first | exact Below.refl _ _ | (refine below_drewN' ?_ _)))))
  clear hwq HS HBW kA kB kS lA lB lS
  have HS := Lib.hid HS2.out
  clear HS2
  clear hg hgb HG0
  go_wp2_with fail
  have hcmp := HCM.out.1
  have hcmpb := HCM.out.2
  have HBW := Lib.hid HS.out.bel
  have kA := cell_of_one HS.out.ha
  have kB := cell_of_one HS.out.hb
  have kS := cell_of_one HS.out.hs
  have lA := lt_of_block HS.out.ha
  have lB := lt_of_block HS.out.hb
  have lS := lt_of_block HS.out.hs
  refine wp_region_vals 10 [fun z9 _ => z9 = .pointer (some ⟨ba, 0, none⟩),
    fun z9 _ => z9 = .int .i64 lvA,
    fun z9 _ => z9 = .pointer (some ⟨bb, 0, none⟩),
    fun z9 _ => z9 = .int .i64 lvB,
    fun z9 _ => z9 = .bool true,
    fun z9 _ => z9 = .bool true,
    fun z9 _ => z9 = .pointer (some ⟨ba, 0, none⟩),
    fun z9 _ => z9 = .pointer (some ⟨bb, 0, none⟩),
    fun v9 w9 => PtNew w9 v9 prB,
    fun z9 _ => z9 = .bool cv]
    (by kernel_rfl) (by kernel_rfl) (by kernel_rfl) (by kernel_rfl) ?_ ?_ ?_
  · intro V hV v w1 w2 h hb
    simp only [List.mem_cons, List.not_mem_nil, or_false] at hV
    rcases hV with rfl | rfl | rfl | rfl | rfl | rfl | rfl | rfl | rfl | rfl
    all_goals first | exact h | (exact PtNew.below h hb)
  · intro iq oq hiq hoq
    match iq, hiq with
    | 0, _ =>
    obtain rfl := Option.some.inj hoq
    intro a1 w1 K hk hK
    have e4 : a1.tmps.getD 4 undef = .pointer (some ⟨ab, 0, none⟩) := hk.same 4 (by simp)
    have c0 : w1.cell? ⟨ab, 0, none⟩ = some (.pointer (some ⟨ba, 0, none⟩)) := Below.keeps hk.ext _ _ (by simp [go_sem, kA, kB, hcmp, hcmpb])
    have c1 : w1.cell? ⟨bx, 0, none⟩ = some (.pointer (some ⟨bb, 0, none⟩)) := Below.keeps hk.ext _ _ (by simp [go_sem, kA, kB, hcmp, hcmpb])
    simp [Region.wanted, Oper.wp, Act.eval, go_sem, e4, c0, c1, kA, kB, hcmp, hcmpb]
    exact hK _ _ (Below.refl _ _) rfl
    | 1, _ =>
    obtain rfl := Option.some.inj hoq
    intro a1 w1 K hk hK
    have d67 : a1.tmps.getD 67 undef = .pointer (some ⟨ba, 0, none⟩) := hk.deps ⟨0, .data⟩ (by simp) rfl _ _ rfl rfl
    simp [Region.wanted, Oper.wp, Act.eval, go_sem, d67, kA, kB, hcmp, hcmpb]
    refine (HLA.out _ (HBW.out.trans ((below_trans (by repeat (first | exact Below.refl _ _ | (refine Below.drew ?_) | (refine below_drewN' ?_ _) | (refine below_alloc' ?_ _) | (refine Below.setCell ?_ (by first | exact Nat.le_refl _ | (simp; done) | (simp; omega)) _))) hk.ext).mono HBW.out.size))).mono ?_
    rintro e w9 ⟨rfl, hw9⟩
    exact hK _ _ (by rw [hw9]; exact Below.refl _ _) rfl
    | 2, _ =>
    obtain rfl := Option.some.inj hoq
    intro a1 w1 K hk hK
    have e5 : a1.tmps.getD 5 undef = .pointer (some ⟨bx, 0, none⟩) := hk.same 5 (by simp)
    have c0 : w1.cell? ⟨ab, 0, none⟩ = some (.pointer (some ⟨ba, 0, none⟩)) := Below.keeps hk.ext _ _ (by simp [go_sem, kA, kB, hcmp, hcmpb])
    have c1 : w1.cell? ⟨bx, 0, none⟩ = some (.pointer (some ⟨bb, 0, none⟩)) := Below.keeps hk.ext _ _ (by simp [go_sem, kA, kB, hcmp, hcmpb])
    simp [Region.wanted, Oper.wp, Act.eval, go_sem, e5, c0, c1, kA, kB, hcmp, hcmpb]
    exact hK _ _ (Below.refl _ _) rfl
    | 3, _ =>
    obtain rfl := Option.some.inj hoq
    intro a1 w1 K hk hK
    have d69 : a1.tmps.getD 69 undef = .pointer (some ⟨bb, 0, none⟩) := hk.deps ⟨2, .data⟩ (by simp) rfl _ _ rfl rfl
    simp [Region.wanted, Oper.wp, Act.eval, go_sem, d69, kA, kB, hcmp, hcmpb]
    refine (HLB.out _ (HBW.out.trans ((below_trans (by repeat (first | exact Below.refl _ _ | (refine Below.drew ?_) | (refine below_drewN' ?_ _) | (refine below_alloc' ?_ _) | (refine Below.setCell ?_ (by first | exact Nat.le_refl _ | (simp; done) | (simp; omega)) _))) hk.ext).mono HBW.out.size))).mono ?_
    rintro e w9 ⟨rfl, hw9⟩
    exact hK _ _ (by rw [hw9]; exact Below.refl _ _) rfl
    | 4, _ =>
    obtain rfl := Option.some.inj hoq
    intro a1 w1 K hk hK
    have d68 : a1.tmps.getD 68 undef = .int .i64 lvA := hk.deps ⟨1, .data⟩ (by simp) rfl _ _ rfl rfl
    have d70 : a1.tmps.getD 70 undef = .int .i64 lvB := hk.deps ⟨3, .data⟩ (by simp) rfl _ _ rfl rfl
    simp [Region.wanted, Oper.wp, Act.eval, go_sem, d68, d70, kA, kB, hcmp, hcmpb]
    exact hK _ _ (Below.refl _ _) rfl
    | 5, _ =>
    obtain rfl := Option.some.inj hoq
    intro a1 w1 K hk hK
    have d71 : a1.tmps.getD 71 undef = .bool true := hk.deps ⟨4, .data⟩ (by simp) rfl _ _ rfl rfl
    simp [Region.wanted, Oper.wp, Act.eval, go_sem, d71, kA, kB, hcmp, hcmpb]
    exact hK _ _ (Below.refl _ _) rfl
    | 6, _ =>
    obtain rfl := Option.some.inj hoq
    intro a1 w1 K hk hK
    have e4 : a1.tmps.getD 4 undef = .pointer (some ⟨ab, 0, none⟩) := hk.same 4 (by simp)
    have gd : a1.tmps[72]? = some (.bool true) := getD_bool (hk.deps ⟨5, .guard⟩ (by simp) rfl _ _ rfl rfl)
    have c0 : w1.cell? ⟨ab, 0, none⟩ = some (.pointer (some ⟨ba, 0, none⟩)) := Below.keeps hk.ext _ _ (by simp [go_sem, kA, kB, hcmp, hcmpb])
    have c1 : w1.cell? ⟨bx, 0, none⟩ = some (.pointer (some ⟨bb, 0, none⟩)) := Below.keeps hk.ext _ _ (by simp [go_sem, kA, kB, hcmp, hcmpb])
    simp [Region.wanted, Oper.wp, Act.eval, go_sem, e4, gd, yielded, c0, c1, kA, kB, hcmp, hcmpb]
    exact hK _ _ (Below.refl _ _) rfl
    | 7, _ =>
    obtain rfl := Option.some.inj hoq
    intro a1 w1 K hk hK
    have e5 : a1.tmps.getD 5 undef = .pointer (some ⟨bx, 0, none⟩) := hk.same 5 (by simp)
    have gd : a1.tmps[72]? = some (.bool true) := getD_bool (hk.deps ⟨5, .guard⟩ (by simp) rfl _ _ rfl rfl)
    have c0 : w1.cell? ⟨ab, 0, none⟩ = some (.pointer (some ⟨ba, 0, none⟩)) := Below.keeps hk.ext _ _ (by simp [go_sem, kA, kB, hcmp, hcmpb])
    have c1 : w1.cell? ⟨bx, 0, none⟩ = some (.pointer (some ⟨bb, 0, none⟩)) := Below.keeps hk.ext _ _ (by simp [go_sem, kA, kB, hcmp, hcmpb])
    simp [Region.wanted, Oper.wp, Act.eval, go_sem, e5, gd, yielded, c0, c1, kA, kB, hcmp, hcmpb]
    exact hK _ _ (Below.refl _ _) rfl
    | 8, _ =>
    obtain rfl := Option.some.inj hoq
    intro a1 w1 K hk hK
    have d74 : a1.tmps.getD 74 undef = .pointer (some ⟨bb, 0, none⟩) := hk.deps ⟨7, .data⟩ (by simp) rfl _ _ rfl rfl
    have gd : a1.tmps[72]? = some (.bool true) := getD_bool (hk.deps ⟨5, .guard⟩ (by simp) rfl _ _ rfl rfl)
    simp [Region.wanted, Oper.wp, Act.eval, go_sem, d74, gd, yielded, kA, kB, hcmp, hcmpb]
    refine (HPB.out _ (HBW.out.trans ((below_trans (by repeat (first | exact Below.refl _ _ | (refine Below.drew ?_) | (refine below_drewN' ?_ _) | (refine below_alloc' ?_ _) | (refine Below.setCell ?_ (by first | exact Nat.le_refl _ | (simp; done) | (simp; omega)) _))) hk.ext).mono HBW.out.size))).mono ?_
    rintro e w9 ⟨u9, rfl, h9, hb9⟩
    exact hK _ _ hb9 h9
    | 9, _ =>
    obtain rfl := Option.some.inj hoq
    intro a1 w1 K hk hK
    have d73 : a1.tmps.getD 73 undef = .pointer (some ⟨ba, 0, none⟩) := hk.deps ⟨6, .data⟩ (by simp) rfl _ _ rfl rfl
    have D75 : PtNew w1 (a1.tmps.getD 75 undef) prB := hk.deps ⟨8, .data⟩ (by simp) rfl _ _ rfl rfl
    have gd : a1.tmps[72]? = some (.bool true) := getD_bool (hk.deps ⟨5, .guard⟩ (by simp) rfl _ _ rfl rfl)
    obtain ⟨A9, c9, eP, _⟩ := RdU.point D75.rd
    have ePx : a1.tmps[75]?.getD undef = .slice A9 prB.length c9 := by rw [← eP]; simp
    rw [eP] at D75
    simp [Region.wanted, Oper.wp, Act.eval, go_sem, d73, eP, ePx, gd, yielded, kA, kB]
    refine (HCA.out _ _ (HBW.out.trans ((below_trans (by repeat (first | exact Below.refl _ _ | (refine Below.drew ?_) | (refine below_drewN' ?_ _) | (refine below_alloc' ?_ _) | (refine Below.setCell ?_ (by first | exact Nat.le_refl _ | (simp; done) | (simp; omega)) _))) hk.ext).mono HBW.out.size)) D75.rd).mono ?_
    rintro e w9 ⟨rfl, hw9⟩
    exact hK _ _ (by rw [hw9]; exact Below.refl _ _) rfl
  · intro vs w3 hl hb3 hv
    match vs, hl with
    | [v0, v1, v2, v3, v4, v5, v6, v7, v8, v9], _ =>
    obtain rfl : v0 = .pointer (some ⟨ba, 0, none⟩) := hv 0 (by omega)
    obtain rfl : v1 = .int .i64 lvA := hv 1 (by omega)
    obtain rfl : v2 = .pointer (some ⟨bb, 0, none⟩) := hv 2 (by omega)
    obtain rfl : v3 = .int .i64 lvB := hv 3 (by omega)
    obtain rfl : v4 = .bool true := hv 4 (by omega)
    obtain rfl : v5 = .bool true := hv 5 (by omega)
    obtain rfl : v6 = .pointer (some ⟨ba, 0, none⟩) := hv 6 (by omega)
    obtain rfl : v7 = .pointer (some ⟨bb, 0, none⟩) := hv 7 (by omega)
    have q8 : PtNew w3 v8 prB := hv 8 (by omega)
    obtain rfl : v9 = .bool cv := hv 9 (by omega)
    clear hv
    simp only [putAll, List.take_succ_cons, List.take_zero, List.drop_succ_cons, List.drop_zero, Act.put, List.setIfInBounds_toArray, List.set_cons_succ, List.set_cons_zero]
    have HS2 := Lib.hid (HS.out.step hb3)
    clear hb3 HS HBW kA kB kS lA lB lS
    have HS := Lib.hid HS2.out
    clear HS2
    clear q8
    clear hcmp hcmpb HCM
    cases cv with
    | true =>
      go_wp2_with fail
      have HBW := Lib.hid HS.out.bel
      have kA := cell_of_one HS.out.ha
      have kB := cell_of_one HS.out.hb
      have kS := cell_of_one HS.out.hs
      have lA := lt_of_block HS.out.ha
      have lB := lt_of_block HS.out.hb
      have lS := lt_of_block HS.out.hs
      refine wp_region_vals 9 [fun z9 _ => z9 = .pointer (some ⟨bb, 0, none⟩),
        fun v9 w9 => PtNew w9 v9 prB,
        fun z9 _ => z9 = .pointer (some ⟨ba, 0, none⟩),
        fun z9 _ => z9 = .int .i64 lvA,
        fun z9 _ => z9 = .tuple #[.int .i64 (adr : Nat), .int .i64 0],
        fun z9 _ => z9 = .tuple #[.int .i64 (adr : Nat), .int .i64 0],
        fun z9 _ => z9 = .int .i64 (adr : Nat),
        fun z9 _ => z9 = .int .i64 0,
        fun z9 _ => z9 = .int .i64 (adr : Nat)]
        (by kernel_rfl) (by kernel_rfl) (by kernel_rfl) (by kernel_rfl) ?_ ?_ ?_
      · intro V hV v w1 w2 h hb
        simp only [List.mem_cons, List.not_mem_nil, or_false] at hV
        rcases hV with rfl | rfl | rfl | rfl | rfl | rfl | rfl | rfl | rfl
        all_goals first | exact h | (exact PtNew.below h hb)
      · intro iq oq hiq hoq
        match iq, hiq with
        | 0, _ =>
        obtain rfl := Option.some.inj hoq
        intro a1 w1 K hk hK
        have e5 : a1.tmps.getD 5 undef = .pointer (some ⟨bx, 0, none⟩) := hk.same 5 (by simp)
        have c0 : w1.cell? ⟨ab, 0, none⟩ = some (.pointer (some ⟨ba, 0, none⟩)) := Below.keeps hk.ext _ _ (by simp [go_sem, kA, kB])
        have c1 : w1.cell? ⟨bx, 0, none⟩ = some (.pointer (some ⟨bb, 0, none⟩)) := Below.keeps hk.ext _ _ (by simp [go_sem, kA, kB])
        simp [Region.wanted, Oper.wp, Act.eval, go_sem, e5, c0, c1, kA, kB]
        exact hK _ _ (Below.refl _ _) rfl
        | 1, _ =>
        obtain rfl := Option.some.inj hoq
        intro a1 w1 K hk hK
        have d79 : a1.tmps.getD 79 undef = .pointer (some ⟨bb, 0, none⟩) := hk.deps ⟨0, .data⟩ (by simp) rfl _ _ rfl rfl
        simp [Region.wanted, Oper.wp, Act.eval, go_sem, d79, kA, kB]
        refine (HPB.out _ (HBW.out.trans ((below_trans (by repeat (first | exact Below.refl _ _ | (refine Below.drew ?_) | (refine below_drewN' ?_ _) | (refine below_alloc' ?_ _) | (refine Below.setCell ?_ (by first | exact Nat.le_refl _ | (simp; done) | (simp; omega)) _))) hk.ext).mono HBW.out.size))).mono ?_
        rintro e w9 ⟨u9, rfl, h9, hb9⟩
        exact hK _ _ hb9 h9
        | 2, _ =>
        obtain rfl := Option.some.inj hoq
        intro a1 w1 K hk hK
        have e4 : a1.tmps.getD 4 undef = .pointer (some ⟨ab, 0, none⟩) := hk.same 4 (by simp)
        have c0 : w1.cell? ⟨ab, 0, none⟩ = some (.pointer (some ⟨ba, 0, none⟩)) := Below.keeps hk.ext _ _ (by simp [go_sem, kA, kB])
        have c1 : w1.cell? ⟨bx, 0, none⟩ = some (.pointer (some ⟨bb, 0, none⟩)) := Below.keeps hk.ext _ _ (by simp [go_sem, kA, kB])
        simp [Region.wanted, Oper.wp, Act.eval, go_sem, e4, c0, c1, kA, kB]
        exact hK _ _ (Below.refl _ _) rfl
        | 3, _ =>
        obtain rfl := Option.some.inj hoq
        intro a1 w1 K hk hK
        have d81 : a1.tmps.getD 81 undef = .pointer (some ⟨ba, 0, none⟩) := hk.deps ⟨2, .data⟩ (by simp) rfl _ _ rfl rfl
        simp [Region.wanted, Oper.wp, Act.eval, go_sem, d81, kA, kB]
        refine (HLA.out _ (HBW.out.trans ((below_trans (by repeat (first | exact Below.refl _ _ | (refine Below.drew ?_) | (refine below_drewN' ?_ _) | (refine below_alloc' ?_ _) | (refine Below.setCell ?_ (by first | exact Nat.le_refl _ | (simp; done) | (simp; omega)) _))) hk.ext).mono HBW.out.size))).mono ?_
        rintro e w9 ⟨rfl, hw9⟩
        exact hK _ _ (by rw [hw9]; exact Below.refl _ _) rfl
        | 4, _ =>
        obtain rfl := Option.some.inj hoq
        intro a1 w1 K hk hK
        have D80 : PtNew w1 (a1.tmps.getD 80 undef) prB := hk.deps ⟨1, .data⟩ (by simp) rfl _ _ rfl rfl
        have d82 : a1.tmps.getD 82 undef = .int .i64 lvA := hk.deps ⟨3, .data⟩ (by simp) rfl _ _ rfl rfl
        obtain ⟨AP, cP, eP, _⟩ := RdU.point D80.rd
        have ePx : a1.tmps[80]?.getD undef = .slice AP prB.length cP := by rw [← eP]; simp
        rw [eP] at D80
        simp [Region.wanted, Oper.wp, Act.eval, go_sem, d82, eP, ePx, kA, kB]
        refine (HADR.out _ _ D80.rd).mono ?_
        rintro e w9 ⟨rfl, hw9⟩
        exact hK _ _ (by rw [hw9]; exact Below.refl _ _) rfl
        | 5, _ =>
        obtain rfl := Option.some.inj hoq
        intro a1 w1 K hk hK
        have d83 : a1.tmps.getD 83 undef = .tuple #[.int .i64 (adr : Nat), .int .i64 0] := hk.deps ⟨4, .data⟩ (by simp) rfl _ _ rfl rfl
        simp [Region.wanted, Oper.wp, Act.eval, go_sem, d83, kA, kB]
        exact hK _ _ (Below.refl _ _) rfl
        | 6, _ =>
        obtain rfl := Option.some.inj hoq
        intro a1 w1 K hk hK
        have d78 : a1.tmps.getD 78 undef = .tuple #[.int .i64 (adr : Nat), .int .i64 0] := hk.deps ⟨5, .data⟩ (by simp) rfl _ _ rfl rfl
        simp [Region.wanted, Oper.wp, Act.eval, go_sem, d78, kA, kB]
        exact hK _ _ (Below.refl _ _) rfl
        | 7, _ =>
        obtain rfl := Option.some.inj hoq
        intro a1 w1 K hk hK
        have d78 : a1.tmps.getD 78 undef = .tuple #[.int .i64 (adr : Nat), .int .i64 0] := hk.deps ⟨5, .data⟩ (by simp) rfl _ _ rfl rfl
        simp [Region.wanted, Oper.wp, Act.eval, go_sem, d78, kA, kB]
        exact hK _ _ (Below.refl _ _) rfl
        | 8, _ =>
        obtain rfl := Option.some.inj hoq
        intro a1 w1 K hk hK
        have d84 : a1.tmps.getD 84 undef = .int .i64 (adr : Nat) := hk.deps ⟨6, .data⟩ (by simp) rfl _ _ rfl rfl
        simp [Region.wanted, Oper.wp, Act.eval, go_sem, d84, kA, kB]
        exact hK _ _ (Below.refl _ _) rfl
      · intro vs w3 hl hb3 hv
        match vs, hl with
        | [v0, v1, v2, v3, v4, v5, v6, v7, v8], _ =>
        obtain rfl : v0 = .pointer (some ⟨bb, 0, none⟩) := hv 0 (by omega)
        have q1 : PtNew w3 v1 prB := hv 1 (by omega)
        obtain rfl : v2 = .pointer (some ⟨ba, 0, none⟩) := hv 2 (by omega)
        obtain rfl : v3 = .int .i64 lvA := hv 3 (by omega)
        obtain rfl : v4 = .tuple #[.int .i64 (adr : Nat), .int .i64 0] := hv 4 (by omega)
        obtain rfl : v5 = .tuple #[.int .i64 (adr : Nat), .int .i64 0] := hv 5 (by omega)
        obtain rfl : v6 = .int .i64 (adr : Nat) := hv 6 (by omega)
        obtain rfl : v7 = .int .i64 0 := hv 7 (by omega)
        obtain rfl : v8 = .int .i64 (adr : Nat) := hv 8 (by omega)
        clear hv
        simp only [putAll, List.take_succ_cons, List.take_zero, List.drop_succ_cons, List.drop_zero, Act.put, List.setIfInBounds_toArray, List.set_cons_succ, List.set_cons_zero]
        have HS2 := Lib.hid (HS.out.step hb3)
        clear hb3 HS HBW kA kB kS lA lB lS
        have HS := Lib.hid HS2.out
        clear HS2
        clear q1
        have HBW := Lib.hid HS.out.bel
        have kA := cell_of_one HS.out.ha
        have kB := cell_of_one HS.out.hb
        have kS := cell_of_one HS.out.hs
        have lA := lt_of_block HS.out.ha
        have lB := lt_of_block HS.out.hb
        have lS := lt_of_block HS.out.hs
        have HBS := Lib.hid (HBES.out (by first | trivial | rfl) _ _ _ _ HS.out HN3.out)
        go_wp2_with fail
        refine HBS.out.mono ?_
        rintro e w7 ⟨rfl, hi7, hk7⟩
        have HF := Lib.hid (And.intro hi7 (HS.out.kp.trans hk7))
        clear hi7 hk7
        go_wp2_with fail
        go_end0
        exact ⟨rfl, HF.out⟩
    | false =>
      have HORD := Lib.hid (HOR.out rfl)
      clear HOR
      have hg := HG2.out.1
      have hgb := HG2.out.2
      have HBW := Lib.hid HS.out.bel
      have kA := cell_of_one HS.out.ha
      have kB := cell_of_one HS.out.hb
      have kS := cell_of_one HS.out.hs
      have lA := lt_of_block HS.out.ha
      have lB := lt_of_block HS.out.hb
      have lS := lt_of_block HS.out.hs
      go_wp2_with fail
      go_quiet ((go_at_call 61; first | with_reducible exact Calls.quiet_of_same (HLA.out _ (below_drewN' HBW.out _)) | with_reducible exact Calls.quiet_of_same (HLB.out _ (below_drewN' HBW.out _))))
      go_wp2_with fail
      refine stayC ?_
      intro wq hwq
      have HS2 := Lib.hid (HS.out.step (show Below _ _ wq from by rw [hwq]; exact (by repeat (first | exact Below.refl _ _ | (refine below_drewN' ?_ _)))))
      clear hwq HS HBW kA kB kS lA lB lS
      have HS := Lib.hid HS2.out
      clear HS2
      clear hg hgb HG2
      go_wp2_with fail
      have HBW := Lib.hid HS.out.bel
      have kA := cell_of_one HS.out.ha
      have kB := cell_of_one HS.out.hb
      have kS := cell_of_one HS.out.hs
      have lA := lt_of_block HS.out.ha
      have lB := lt_of_block HS.out.hb
      have lS := lt_of_block HS.out.hs
      refine wp_region_vals 9 [fun z9 _ => z9 = .pointer (some ⟨ba, 0, none⟩),
        fun v9 w9 => PtNew w9 v9 prA,
        fun z9 _ => z9 = .pointer (some ⟨bb, 0, none⟩),
        fun v9 w9 => PtNew w9 v9 prB,
        fun z9 _ => z9 = .tuple #[.int .i64 z, .int .i64 0],
        fun z9 _ => z9 = .tuple #[.int .i64 z, .int .i64 0],
        fun z9 _ => z9 = .int .i64 z,
        fun z9 _ => z9 = .int .i64 0,
        fun z9 _ => z9 = .int .i64 z]
        (by kernel_rfl) (by kernel_rfl) (by kernel_rfl) (by kernel_rfl) ?_ ?_ ?_
      · intro V hV v w1 w2 h hb
        simp only [List.mem_cons, List.not_mem_nil, or_false] at hV
        rcases hV with rfl | rfl | rfl | rfl | rfl | rfl | rfl | rfl | rfl
        all_goals first | exact h | (exact PtNew.below h hb)
      · intro iq oq hiq hoq
        match iq, hiq with
        | 0, _ =>
        obtain rfl := Option.some.inj hoq
        intro a1 w1 K hk hK
        have e4 : a1.tmps.getD 4 undef = .pointer (some ⟨ab, 0, none⟩) := hk.same 4 (by simp)
        have c0 : w1.cell? ⟨ab, 0, none⟩ = some (.pointer (some ⟨ba, 0, none⟩)) := Below.keeps hk.ext _ _ (by simp [go_sem, kA, kB])
        have c1 : w1.cell? ⟨bx, 0, none⟩ = some (.pointer (some ⟨bb, 0, none⟩)) := Below.keeps hk.ext _ _ (by simp [go_sem, kA, kB])
        simp [Region.wanted, Oper.wp, Act.eval, go_sem, e4, c0, c1, kA, kB]
        exact hK _ _ (Below.refl _ _) rfl
        | 1, _ =>
        obtain rfl := Option.some.inj hoq
        intro a1 w1 K hk hK
        have d13 : a1.tmps.getD 13 undef = .pointer (some ⟨ba, 0, none⟩) := hk.deps ⟨0, .data⟩ (by simp) rfl _ _ rfl rfl
        simp [Region.wanted, Oper.wp, Act.eval, go_sem, d13, kA, kB]
        refine (HPA.out _ (HBW.out.trans ((below_trans (by repeat (first | exact Below.refl _ _ | (refine Below.drew ?_) | (refine below_drewN' ?_ _) | (refine below_alloc' ?_ _) | (refine Below.setCell ?_ (by first | exact Nat.le_refl _ | (simp; done) | (simp; omega)) _))) hk.ext).mono HBW.out.size))).mono ?_
        rintro e w9 ⟨u9, rfl, h9, hb9⟩
        exact hK _ _ hb9 h9
        | 2, _ =>
        obtain rfl := Option.some.inj hoq
        intro a1 w1 K hk hK
        have e5 : a1.tmps.getD 5 undef = .pointer (some ⟨bx, 0, none⟩) := hk.same 5 (by simp)
        have c0 : w1.cell? ⟨ab, 0, none⟩ = some (.pointer (some ⟨ba, 0, none⟩)) := Below.keeps hk.ext _ _ (by simp [go_sem, kA, kB])
        have c1 : w1.cell? ⟨bx, 0, none⟩ = some (.pointer (some ⟨bb, 0, none⟩)) := Below.keeps hk.ext _ _ (by simp [go_sem, kA, kB])
        simp [Region.wanted, Oper.wp, Act.eval, go_sem, e5, c0, c1, kA, kB]
        exact hK _ _ (Below.refl _ _) rfl
        | 3, _ =>
        obtain rfl := Option.some.inj hoq
        intro a1 w1 K hk hK
        have d15 : a1.tmps.getD 15 undef = .pointer (some ⟨bb, 0, none⟩) := hk.deps ⟨2, .data⟩ (by simp) rfl _ _ rfl rfl
        simp [Region.wanted, Oper.wp, Act.eval, go_sem, d15, kA, kB]
        refine (HPB.out _ (HBW.out.trans ((below_trans (by repeat (first | exact Below.refl _ _ | (refine Below.drew ?_) | (refine below_drewN' ?_ _) | (refine below_alloc' ?_ _) | (refine Below.setCell ?_ (by first | exact Nat.le_refl _ | (simp; done) | (simp; omega)) _))) hk.ext).mono HBW.out.size))).mono ?_
        rintro e w9 ⟨u9, rfl, h9, hb9⟩
        exact hK _ _ hb9 h9
        | 4, _ =>
        obtain rfl := Option.some.inj hoq
        intro a1 w1 K hk hK
        have D14 : PtNew w1 (a1.tmps.getD 14 undef) prA := hk.deps ⟨1, .data⟩ (by simp) rfl _ _ rfl rfl
        have D16 : PtNew w1 (a1.tmps.getD 16 undef) prB := hk.deps ⟨3, .data⟩ (by simp) rfl _ _ rfl rfl
        obtain ⟨AP, cP, eP, _⟩ := RdU.point D14.rd
        have ePx : a1.tmps[14]?.getD undef = .slice AP prA.length cP := by rw [← eP]; simp
        rw [eP] at D14
        obtain ⟨AQ, cQ, eQ, _⟩ := RdU.point D16.rd
        have eQx : a1.tmps[16]?.getD undef = .slice AQ prB.length cQ := by rw [← eQ]; simp
        rw [eQ] at D16
        simp [Region.wanted, Oper.wp, Act.eval, go_sem, eP, ePx, eQ, eQx, kA, kB]
        refine (HCMP.out _ _ _ D14.rd D16.rd).mono ?_
        rintro e w9 ⟨rfl, hw9⟩
        exact hK _ _ (by rw [hw9]; exact Below.refl _ _) rfl
        | 5, _ =>
        obtain rfl := Option.some.inj hoq
        intro a1 w1 K hk hK
        have d17 : a1.tmps.getD 17 undef = .tuple #[.int .i64 z, .int .i64 0] := hk.deps ⟨4, .data⟩ (by simp) rfl _ _ rfl rfl
        simp [Region.wanted, Oper.wp, Act.eval, go_sem, d17, kA, kB]
        exact hK _ _ (Below.refl _ _) rfl
        | 6, _ =>
        obtain rfl := Option.some.inj hoq
        intro a1 w1 K hk hK
        have d12 : a1.tmps.getD 12 undef = .tuple #[.int .i64 z, .int .i64 0] := hk.deps ⟨5, .data⟩ (by simp) rfl _ _ rfl rfl
        simp [Region.wanted, Oper.wp, Act.eval, go_sem, d12, kA, kB]
        exact hK _ _ (Below.refl _ _) rfl
        | 7, _ =>
        obtain rfl := Option.some.inj hoq
        intro a1 w1 K hk hK
        have d12 : a1.tmps.getD 12 undef = .tuple #[.int .i64 z, .int .i64 0] := hk.deps ⟨5, .data⟩ (by simp) rfl _ _ rfl rfl
        simp [Region.wanted, Oper.wp, Act.eval, go_sem, d12, kA, kB]
        exact hK _ _ (Below.refl _ _) rfl
        | 8, _ =>
        obtain rfl := Option.some.inj hoq
        intro a1 w1 K hk hK
        have d18 : a1.tmps.getD 18 undef = .int .i64 z := hk.deps ⟨6, .data⟩ (by simp) rfl _ _ rfl rfl
        simp [Region.wanted, Oper.wp, Act.eval, go_sem, d18, kA, kB]
        exact hK _ _ (Below.refl _ _) rfl
      · intro vs w3 hl hb3 hv
        match vs, hl with
        | [v0, v1, v2, v3, v4, v5, v6, v7, v8], _ =>
        obtain rfl : v0 = .pointer (some ⟨ba, 0, none⟩) := hv 0 (by omega)
        have q1 : PtNew w3 v1 prA := hv 1 (by omega)
        obtain rfl : v2 = .pointer (some ⟨bb, 0, none⟩) := hv 2 (by omega)
        have q3 : PtNew w3 v3 prB := hv 3 (by omega)
        obtain rfl : v4 = .tuple #[.int .i64 z, .int .i64 0] := hv 4 (by omega)
        obtain rfl : v5 = .tuple #[.int .i64 z, .int .i64 0] := hv 5 (by omega)
        obtain rfl : v6 = .int .i64 z := hv 6 (by omega)
        obtain rfl : v7 = .int .i64 0 := hv 7 (by omega)
        obtain rfl : v8 = .int .i64 z := hv 8 (by omega)
        clear hv
        simp only [putAll, List.take_succ_cons, List.take_zero, List.drop_succ_cons, List.drop_zero, Act.put, List.setIfInBounds_toArray, List.set_cons_succ, List.set_cons_zero]
        have HS2 := Lib.hid (HS.out.step hb3)
        clear hb3 HS HBW kA kB kS lA lB lS
        have HS := Lib.hid HS2.out
        clear HS2
        clear q1 q3
        by_cases hz : z < 0
        · have HE := Lib.hid (HORD.out.1 (by omega))
          have HBW := Lib.hid HS.out.bel
          have kA := cell_of_one HS.out.ha
          have kB := cell_of_one HS.out.hb
          have kS := cell_of_one HS.out.hs
          have lA := lt_of_block HS.out.ha
          have lB := lt_of_block HS.out.hb
          have lS := lt_of_block HS.out.hs
          go_wp2_with fail
          refine (HALA.out _ _ HS.out.inv L1.out).mono ?_
          rintro e w7 ⟨rfl, hi7, hk7⟩
          have HS2 := Lib.hid (HS.out.go HN3.out hi7 hk7)
          clear hi7 hk7 HBW kA kB kS lA lB lS
          have kA := cell_of_one HS2.out.ha
          have kB := cell_of_one HS2.out.hb
          have kS := cell_of_one HS2.out.hs
          have lA := lt_of_block HS2.out.ha
          have lB := lt_of_block HS2.out.hb
          have lS := lt_of_block HS2.out.hs
          go_wp2_with fail
          refine (HALB.out _ _ HS2.out.inv L2.out).mono ?_
          rintro e w8 ⟨rfl, hi8, hk8⟩
          have HF := Lib.hid (And.intro hi8 (HS2.out.kp.trans hk8))
          clear hi8 hk8
          go_wp2_with fail
          go_end0
          rw [HE.out, ← List.append_assoc]
          exact ⟨rfl, HF.out⟩
        · have HE := Lib.hid (HORD.out.2 (by omega))
          have HBW := Lib.hid HS.out.bel
          have kA := cell_of_one HS.out.ha
          have kB := cell_of_one HS.out.hb
          have kS := cell_of_one HS.out.hs
          have lA := lt_of_block HS.out.ha
          have lB := lt_of_block HS.out.hb
          have lS := lt_of_block HS.out.hs
          go_wp2_with fail
          refine (HALB.out _ _ HS.out.inv L3.out).mono ?_
          rintro e w7 ⟨rfl, hi7, hk7⟩
          have HS2 := Lib.hid (HS.out.go HN3.out hi7 hk7)
          clear hi7 hk7 HBW kA kB kS lA lB lS
          have kA := cell_of_one HS2.out.ha
          have kB := cell_of_one HS2.out.hb
          have kS := cell_of_one HS2.out.hs
          have lA := lt_of_block HS2.out.ha
          have lB := lt_of_block HS2.out.hb
          have lS := lt_of_block HS2.out.hs
          go_wp2_with fail
          refine (HALA.out _ _ HS2.out.inv L4.out).mono ?_
          rintro e w8 ⟨rfl, hi8, hk8⟩
          have HF := Lib.hid (And.intro hi8 (HS2.out.kp.trans hk8))
          clear hi8 hk8
          go_wp2_with fail
          go_end0
          rw [HE.out, ← List.append_assoc]
          exact ⟨rfl, HF.out⟩
end Go.Proofs.Ytjokcagggmjgmaa
/-! DifM -/
namespace Go.Proofs.Ytjokcagggmjgmaa
open Go.RowKit
set_option linter.unusedVariables false
set_option linter.unusedSimpArgs false
set_option maxRecDepth 100000

set_option maxHeartbeats 32000000 in
theorem both_lt (W w : World) (B k ba bb : Nat) (la lb : List En) (d : List Ch) (hW : W.heap.size ≤ B) (k1 : 1 ≤ k) (k16 : k ≤ 16) (ha : Nd W k ba la) (hb : Nd W k bb lb) (hne : ba ≠ bb) (hi : InvT W B d w) (hN : d.length + la.length + lb.length ≤ 10000) (ih : BoIH W B k (la.length + lb.length)) (hlv : lev la < lev lb) :
    Calls Try.prog 48 #[SV B, .pointer (some ⟨ba, 0, none⟩), .pointer (some ⟨bb, 0, none⟩)] w fun e w' => StP W B (d ++ changesL la lb) w e w' := by
  obtain ⟨vA, kpA, hhA⟩ := ha.hd
  obtain ⟨vB, kpB, hhB⟩ := hb.hd
  obtain ⟨pA1, pA2, pA3⟩ := ha.pre_ok
  obtain ⟨pB1, pB2, pB3⟩ := hb.pre_ok
  obtain ⟨uA, cA1, cA2⟩ := hhA.c1
  obtain ⟨uB, cB1, cB2⟩ := hhB.c1
  have hLA := fun w' (h : Below W.heap.size W w') => nlev_any w' ba _ (Below.keeps h _ _ hhA.c0)
  have hLB := fun w' (h : Below W.heap.size W w') => nlev_any w' bb _ (Below.keeps h _ _ hhB.c0)
  obtain ⟨lvA, hlA⟩ : ∃ lv : Int, (lev la : Int) - 1 = lv := ⟨_, rfl⟩
  obtain ⟨lvB, hlB⟩ : ∃ lv : Int, (lev lb : Int) - 1 = lv := ⟨_, rfl⟩
  rw [hlA] at hLA
  rw [hlB] at hLB
  have HLA := Lib.hid hLA
  have HLB := Lib.hid hLB
  have HPA := Lib.hid (fun w' (h : Below W.heap.size W w') => npref_any w' ba (preL la) uA (Below.keeps h _ _ cA1) (cA2.below h) (by omega) (by omega))
  have HPB := Lib.hid (fun w' (h : Below W.heap.size W w') => npref_any w' bb (preL lb) uB (Below.keeps h _ _ cB1) (cB2.below h) (by omega) (by omega))
  have HCA := Lib.hid (fun w' u (h : Below W.heap.size W w') (hu : RdU w' u (pti (preL lb))) => ncov_any w' k ba la (preL lb) u (ha.bel h) hu pB1 pB2 k1 k16)
  have HCB := Lib.hid (fun w' u (h : Below W.heap.size W w') (hu : RdU w' u (pti (preL la))) => ncov_any w' k bb lb (preL la) u (hb.bel h) hu pA1 pA2 k1 k16)
  obtain ⟨prA, hprA⟩ : ∃ p, preL la = p := ⟨_, rfl⟩
  obtain ⟨prB, hprB⟩ : ∃ p, preL lb = p := ⟨_, rfl⟩
  rw [hprA] at HPA HCB
  rw [hprB] at HPB HCA
  have HI := Lib.hid hi
  have hE := fun (h1 : lev la = lev lb) (h2 : cov la (preL lb) = true) (w' : World) (h : InvT W B d w') => even_any W w' B k ba bb la lb d hW k1 k16 ha hb h1 h2 h hN ih
  have hORD := apart_any ha hb
  have HAB := Lib.hid (And.intro ha hb)
  have HD := Lib.hid (And.intro hW (And.intro k1 (And.intro k16 hN)))
  have HLV := Lib.hid (And.intro hlA hlB)
  have HPR := Lib.hid (And.intro hprA hprB)
  have hbx : Below w.heap.size w (((w.alloc (.cells #[.func (.func 47) #[] #[.pointer (some ⟨B, 0, none⟩)]] 94)).alloc (.cells #[.pointer (some ⟨ba, 0, none⟩)] 62)).alloc (.cells #[.pointer (some ⟨bb, 0, none⟩)] 62)) := (by repeat (first | exact Below.refl _ _ | (refine Below.drew ?_) | (refine below_drewN' ?_ _) | (refine below_alloc' ?_ _) | (refine Below.setCell ?_ (by first | exact Nat.le_refl _ | (simp; done) | (simp; omega)) _)))
  have he := node_other (ha.bel (hi.bel.trans (hbx.mono hi.bel.size))) (hb.bel (hi.bel.trans (hbx.mono hi.bel.size))) hne
  have HBX := Lib.hid hbx
  have HALA := Lib.hid (fun (w' : World) (d' : List Ch) (h : InvT W B d' w') (hl : d'.length + la.length ≤ 10000) => dAll_any W w' B k (some ba) la d' _ _ as_gone hW ha k1 k16 h hl)
  have HALB := Lib.hid (fun (w' : World) (d' : List Ch) (h : InvT W B d' w') (hl : d'.length + lb.length ≤ 10000) => dAll_any W w' B k (some bb) lb d' _ _ as_come hW hb k1 k16 h hl)
  have L1 := Lib.hid (show d.length + la.length ≤ 10000 from by omega)
  have L2 := Lib.hid (show (d ++ la.map goneC).length + lb.length ≤ 10000 from by rw [List.length_append, List.length_map]; omega)
  have L3 := Lib.hid (show d.length + lb.length ≤ 10000 from by omega)
  have L4 := Lib.hid (show (d ++ lb.map comeC).length + la.length ≤ 10000 from by rw [List.length_append, List.length_map]; omega)
  have HCMP := Lib.hid (fun (w' : World) (u v : Value) (hu : RdU w' u (pti (preL la))) (hv : RdU w' v (pti (preL lb))) => zCmp_any (preL la) (preL lb) u v w' hu hv (by rw [pA1, pB1]) (by omega) (by omega) pA2 pB2)
  obtain ⟨z, hz0⟩ : ∃ z, Zb.cmp (preL la) (preL lb) = z := ⟨_, rfl⟩
  rw [hz0] at HCMP hORD
  rw [hprA, hprB] at HCMP
  rw [hprA, hprB] at hORD
  rw [hprB] at hE
  obtain ⟨adr, hadr⟩ : ∃ a, Zb.addr (preL la) (lev lb - 1) = a := ⟨_, rfl⟩
  have hADR := fun (w' : World) (u : Value) (hu : RdU w' u (pti (preL la))) => zAddr_any (preL la) (lev lb - 1) u w' hu (by rw [pA1]; omega) (by rw [pA1]; omega) pA2 (by obtain ⟨s, n, pre, ks, h1, h2, h3, h4, h5, h6, h7⟩ := lev_pos_node hb (by omega); have := h4.n64; omega)
  rw [hadr] at hADR
  rw [show ((lev lb - 1 : Nat) : Int) = lvB from by omega] at hADR
  have HADR := Lib.hid hADR
  rw [hprA] at HADR
  clear hADR
  have HG0 := Lib.hid (show ¬ lvA = lvB ∧ (lvA == lvB) = false from ⟨by omega, by simp; omega⟩)
  have HG1 := Lib.hid (show ¬ lvA > lvB ∧ decide (lvA > lvB) = false from ⟨by omega, by simp; omega⟩)
  have HCM := Lib.hid (show lvB > lvA ∧ decide (lvB > lvA) = true from ⟨by omega, by simp; omega⟩)
  obtain ⟨cv, hcv⟩ : ∃ cv, cov lb prA = cv := ⟨_, rfl⟩
  have hbes := fun (h : cv = true) (w' : World) (sb ab bx : Nat) (hs : BoS W w B sb ab bx ba bb d w') (hn : sb ≠ B ∧ ab ≠ B ∧ bx ≠ B) => bes_come W w w' B k ba bb sb ab bx la lb d hW k1 k16 ha hb hlv (by rw [hprA, hcv, h]) hs hn hN ih
  rw [hadr] at hbes
  rw [hcv] at HCB hORD
  have HBES := Lib.hid hbes
  have HOR := Lib.hid (fun (h : cv = false) => hORD (Or.inr ⟨Nat.le_of_lt hlv, h⟩))
  clear hadr
  clear hlv ha hb hne hi hN hW k1 k16 hhA hhB pA1 pA2 pA3 pB1 pB2 pB3 cA1 cA2 cB1 cB2 hLA hLB hlA hlB hprA hprB hbx hE hORD ih hz0 hcv hbes
  go_enter Try.func48, Try.ntmps48
  go_wp2_with fail
  have hBl := Exists.choose_spec (InvT.blkB HI.out)
  have HBS := Lib.hid (lt_of_block hBl)
  have hs0 : (((w.alloc (.cells #[.func (.func 47) #[] #[.pointer (some ⟨B, 0, none⟩)]] 94)).alloc (.cells #[.pointer (some ⟨ba, 0, none⟩)] 62)).alloc (.cells #[.pointer (some ⟨bb, 0, none⟩)] 62)).heap[w.heap.size]? = some (.cells #[.func (.func 47) #[] #[.pointer (some ⟨B, 0, none⟩)]] 94 (0, 0)) := (((by repeat (first | exact Below.refl _ _ | (refine Below.drew ?_) | (refine below_drewN' ?_ _) | (refine below_alloc' ?_ _) | (refine Below.setCell ?_ (by first | exact Nat.le_refl _ | (simp; done) | (simp; omega)) _))) : Below (w.alloc (.cells #[.func (.func 47) #[] #[.pointer (some ⟨B, 0, none⟩)]] 94)).heap.size (w.alloc (.cells #[.func (.func 47) #[] #[.pointer (some ⟨B, 0, none⟩)]] 94)) _).block _ (by simp)).trans (alloc_blk _ _)
  have ha0 : (((w.alloc (.cells #[.func (.func 47) #[] #[.pointer (some ⟨B, 0, none⟩)]] 94)).alloc (.cells #[.pointer (some ⟨ba, 0, none⟩)] 62)).alloc (.cells #[.pointer (some ⟨bb, 0, none⟩)] 62)).heap[w.heap.size + 1]? = some (.cells #[.pointer (some ⟨ba, 0, none⟩)] 62 (0, 0)) := (((by repeat (first | exact Below.refl _ _ | (refine Below.drew ?_) | (refine below_drewN' ?_ _) | (refine below_alloc' ?_ _) | (refine Below.setCell ?_ (by first | exact Nat.le_refl _ | (simp; done) | (simp; omega)) _))) : Below ((w.alloc (.cells #[.func (.func 47) #[] #[.pointer (some ⟨B, 0, none⟩)]] 94)).alloc (.cells #[.pointer (some ⟨ba, 0, none⟩)] 62)).heap.size ((w.alloc (.cells #[.func (.func 47) #[] #[.pointer (some ⟨B, 0, none⟩)]] 94)).alloc (.cells #[.pointer (some ⟨ba, 0, none⟩)] 62)) _).block _ (by simp)).trans (by have := alloc_blk (w.alloc (.cells #[.func (.func 47) #[] #[.pointer (some ⟨B, 0, none⟩)]] 94)) (.cells #[.pointer (some ⟨ba, 0, none⟩)] 62); simpa using this)
  have hb0 : (((w.alloc (.cells #[.func (.func 47) #[] #[.pointer (some ⟨B, 0, none⟩)]] 94)).alloc (.cells #[.pointer (some ⟨ba, 0, none⟩)] 62)).alloc (.cells #[.pointer (some ⟨bb, 0, none⟩)] 62)).heap[w.heap.size + 1 + 1]? = some (.cells #[.pointer (some ⟨bb, 0, none⟩)] 62 (0, 0)) := by have := alloc_blk ((w.alloc (.cells #[.func (.func 47) #[] #[.pointer (some ⟨B, 0, none⟩)]] 94)).alloc (.cells #[.pointer (some ⟨ba, 0, none⟩)] 62)) (.cells #[.pointer (some ⟨bb, 0, none⟩)] 62); simpa using this
  have HBW0 := Lib.hid (HI.out.bel.trans (HBX.out.mono HI.out.bel.size))
  have HIX := Lib.hid (HI.out.step HBX.out)
  have HKX := Lib.hid (Kp.of (B := B) HBX.out)
  obtain ⟨sb, hsb⟩ : ∃ sb, w.heap.size = sb := ⟨_, rfl⟩
  obtain ⟨ab, hab⟩ : ∃ ab, w.heap.size + 1 = ab := ⟨_, rfl⟩
  obtain ⟨bx, hbxx⟩ : ∃ bx, w.heap.size + 1 + 1 = bx := ⟨_, rfl⟩
  have HNB := Lib.hid (show sb ≠ B ∧ ab ≠ B ∧ bx ≠ B from by have := HBS.out; omega)
  rw [hsb] at hs0
  rw [hab] at ha0
  rw [hbxx] at hb0
  rw [hbxx, hab, hsb]
  clear hsb hab hbxx he HBX hBl
  generalize ((w.alloc (.cells #[.func (.func 47) #[] #[.pointer (some ⟨B, 0, none⟩)]] 94)).alloc (.cells #[.pointer (some ⟨ba, 0, none⟩)] 62)).alloc (.cells #[.pointer (some ⟨bb, 0, none⟩)] 62) = wx at *
  have HS := Lib.hid (show BoS W w B sb ab bx ba bb d wx from ⟨HBW0.out, HIX.out, HKX.out, hs0, ha0, hb0⟩)
  clear hs0 ha0 hb0 HBW0 HIX HKX HBS
  have HN3 := HNB
  clear HNB
  have hg := HG0.out.1
  have hgb := HG0.out.2
  have HBW := Lib.hid HS.out.bel
  have kA := cell_of_one HS.out.ha
  have kB := cell_of_one HS.out.hb
  have kS := cell_of_one HS.out.hs
  have lA := lt_of_block HS.out.ha
  have lB := lt_of_block HS.out.hb
  have lS := lt_of_block HS.out.hs
  go_wp2_with fail
  go_quiet ((go_at_call 61; first | with_reducible exact Calls.quiet_of_same (HLA.out _ (below_drewN' HBW.out _)) | with_reducible exact Calls.quiet_of_same (HLB.out _ (below_drewN' HBW.out _))))
  go_wp2_with fail
  refine stayC ?_
  intro wq hwq
  have HS2 := Lib.hid (HS.out.step (show Below _ _ wq from by rw [hwq]; exact (by repeat (first | exact Below.refl _ _ | (refine below_drewN' ?_ _)))))
  clear hwq HS HBW kA kB kS lA lB lS
  have HS := Lib.hid HS2.out
  clear HS2
  clear hg hgb HG0
  go_wp2_with fail
  have hg := HG1.out.1
  have hgb := HG1.out.2
  have HBW := Lib.hid HS.out.bel
  have kA := cell_of_one HS.out.ha
  have kB := cell_of_one HS.out.hb
  have kS := cell_of_one HS.out.hs
  have lA := lt_of_block HS.out.ha
  have lB := lt_of_block HS.out.hb
  have lS := lt_of_block HS.out.hs
  go_quiet ((go_at_call 61; first | with_reducible exact Calls.quiet_of_same (HLA.out _ (below_drewN' HBW.out _)) | with_reducible exact Calls.quiet_of_same (HLB.out _ (below_drewN' HBW.out _))))
  go_wp2_with fail
  refine stayC ?_
  intro wq hwq
  have HS2 := Lib.hid (HS.out.step (show Below _ _ wq from by rw [hwq]; exact (by repeat (first | exact Below.refl _ _ | (refine below_drewN' ?_ _)))))
  clear hwq HS HBW kA kB kS lA lB lS
  have HS := Lib.hid HS2.out
  clear HS2
  clear hg hgb HG1
  go_wp2_with fail
  have hcmp := HCM.out.1
  have hcmpb := HCM.out.2
  have HBW := Lib.hid HS.out.bel
  have kA := cell_of_one HS.out.ha
  have kB := cell_of_one HS.out.hb
  have kS := cell_of_one HS.out.hs
  have lA := lt_of_block HS.out.ha
  have lB := lt_of_block HS.out.hb
  have lS := lt_of_block HS.out.hs
  refine wp_region_vals 10 [fun z9 _ => z9 = .pointer (some ⟨bb, 0, none⟩),
    fun z9 _ => z9 = .int .i64 lvB,
    fun z9 _ => z9 = .pointer (some ⟨ba, 0, none⟩),
    fun z9 _ => z9 = .int .i64 lvA,
    fun z9 _ => z9 = .bool true,
    fun z9 _ => z9 = .bool true,
    fun z9 _ => z9 = .pointer (some ⟨bb, 0, none⟩),
    fun z9 _ => z9 = .pointer (some ⟨ba, 0, none⟩),
    fun v9 w9 => PtNew w9 v9 prA,
    fun z9 _ => z9 = .bool cv]
    (by kernel_rfl) (by kernel_rfl) (by kernel_rfl) (by kernel_rfl) ?_ ?_ ?_
  · intro V hV v w1 w2 h hb
    simp only [List.mem_cons, List.not_mem_nil, or_false] at hV
    rcases hV with rfl | rfl | rfl | rfl | rfl | rfl | rfl | rfl | rfl | rfl
    all_goals first | exact h | (exact PtNew.below h hb)
  · intro iq oq hiq hoq
    match iq, hiq with
    | 0, _ =>
    obtain rfl := Option.some.inj hoq
    intro a1 w1 K hk hK
    have e5 : a1.tmps.getD 5 undef = .pointer (some ⟨bx, 0, none⟩) := hk.same 5 (by simp)
    have c0 : w1.cell? ⟨ab, 0, none⟩ = some (.pointer (some ⟨ba, 0, none⟩)) := Below.keeps hk.ext _ _ (by simp [go_sem, kA, kB, hcmp, hcmpb])
    have c1 : w1.cell? ⟨bx, 0, none⟩ = some (.pointer (some ⟨bb, 0, none⟩)) := Below.keeps hk.ext _ _ (by simp [go_sem, kA, kB, hcmp, hcmpb])
    simp [Region.wanted, Oper.wp, Act.eval, go_sem, e5, c0, c1, kA, kB, hcmp, hcmpb]
    exact hK _ _ (Below.refl _ _) rfl
    | 1, _ =>
    obtain rfl := Option.some.inj hoq
    intro a1 w1 K hk hK
    have d92 : a1.tmps.getD 92 undef = .pointer (some ⟨bb, 0, none⟩) := hk.deps ⟨0, .data⟩ (by simp) rfl _ _ rfl rfl
    simp [Region.wanted, Oper.wp, Act.eval, go_sem, d92, kA, kB, hcmp, hcmpb]
    refine (HLB.out _ (HBW.out.trans ((below_trans (by repeat (first | exact Below.refl _ _ | (refine Below.drew ?_) | (refine below_drewN' ?_ _) | (refine below_alloc' ?_ _) | (refine Below.setCell ?_ (by first | exact Nat.le_refl _ | (simp; done) | (simp; omega)) _))) hk.ext).mono HBW.out.size))).mono ?_
    rintro e w9 ⟨rfl, hw9⟩
    exact hK _ _ (by rw [hw9]; exact Below.refl _ _) rfl
    | 2, _ =>
    obtain rfl := Option.some.inj hoq
    intro a1 w1 K hk hK
    have e4 : a1.tmps.getD 4 undef = .pointer (some ⟨ab, 0, none⟩) := hk.same 4 (by simp)
    have c0 : w1.cell? ⟨ab, 0, none⟩ = some (.pointer (some ⟨ba, 0, none⟩)) := Below.keeps hk.ext _ _ (by simp [go_sem, kA, kB, hcmp, hcmpb])
    have c1 : w1.cell? ⟨bx, 0, none⟩ = some (.pointer (some ⟨bb, 0, none⟩)) := Below.keeps hk.ext _ _ (by simp [go_sem, kA, kB, hcmp, hcmpb])
    simp [Region.wanted, Oper.wp, Act.eval, go_sem, e4, c0, c1, kA, kB, hcmp, hcmpb]
    exact hK _ _ (Below.refl _ _) rfl
    | 3, _ =>
    obtain rfl := Option.some.inj hoq
    intro a1 w1 K hk hK
    have d94 : a1.tmps.getD 94 undef = .pointer (some ⟨ba, 0, none⟩) := hk.deps ⟨2, .data⟩ (by simp) rfl _ _ rfl rfl
    simp [Region.wanted, Oper.wp, Act.eval, go_sem, d94, kA, kB, hcmp, hcmpb]
    refine (HLA.out _ (HBW.out.trans ((below_trans (by repeat (first | exact Below.refl _ _ | (refine Below.drew ?_) | (refine below_drewN' ?_ _) | (refine below_alloc' ?_ _) | (refine Below.setCell ?_ (by first | exact Nat.le_refl _ | (simp; done) | (simp; omega)) _))) hk.ext).mono HBW.out.size))).mono ?_
    rintro e w9 ⟨rfl, hw9⟩
    exact hK _ _ (by rw [hw9]; exact Below.refl _ _) rfl
    | 4, _ =>
    obtain rfl := Option.some.inj hoq
    intro a1 w1 K hk hK
    have d93 : a1.tmps.getD 93 undef = .int .i64 lvB := hk.deps ⟨1, .data⟩ (by simp) rfl _ _ rfl rfl
    have d95 : a1.tmps.getD 95 undef = .int .i64 lvA := hk.deps ⟨3, .data⟩ (by simp) rfl _ _ rfl rfl
    simp [Region.wanted, Oper.wp, Act.eval, go_sem, d93, d95, kA, kB, hcmp, hcmpb]
    exact hK _ _ (Below.refl _ _) rfl
    | 5, _ =>
    obtain rfl := Option.some.inj hoq
    intro a1 w1 K hk hK
    have d96 : a1.tmps.getD 96 undef = .bool true := hk.deps ⟨4, .data⟩ (by simp) rfl _ _ rfl rfl
    simp [Region.wanted, Oper.wp, Act.eval, go_sem, d96, kA, kB, hcmp, hcmpb]
    exact hK _ _ (Below.refl _ _) rfl
    | 6, _ =>
    obtain rfl := Option.some.inj hoq
    intro a1 w1 K hk hK
    have e5 : a1.tmps.getD 5 undef = .pointer (some ⟨bx, 0, none⟩) := hk.same 5 (by simp)
    have gd : a1.tmps[97]? = some (.bool true) := getD_bool (hk.deps ⟨5, .guard⟩ (by simp) rfl _ _ rfl rfl)
    have c0 : w1.cell? ⟨ab, 0, none⟩ = some (.pointer (some ⟨ba, 0, none⟩)) := Below.keeps hk.ext _ _ (by simp [go_sem, kA, kB, hcmp, hcmpb])
    have c1 : w1.cell? ⟨bx, 0, none⟩ = some (.pointer (some ⟨bb, 0, none⟩)) := Below.keeps hk.ext _ _ (by simp [go_sem, kA, kB, hcmp, hcmpb])
    simp [Region.wanted, Oper.wp, Act.eval, go_sem, e5, gd, yielded, c0, c1, kA, kB, hcmp, hcmpb]
    exact hK _ _ (Below.refl _ _) rfl
    | 7, _ =>
    obtain rfl := Option.some.inj hoq
    intro a1 w1 K hk hK
    have e4 : a1.tmps.getD 4 undef = .pointer (some ⟨ab, 0, none⟩) := hk.same 4 (by simp)
    have gd : a1.tmps[97]? = some (.bool true) := getD_bool (hk.deps ⟨5, .guard⟩ (by simp) rfl _ _ rfl rfl)
    have c0 : w1.cell? ⟨ab, 0, none⟩ = some (.pointer (some ⟨ba, 0, none⟩)) := Below.keeps hk.ext _ _ (by simp [go_sem, kA, kB, hcmp, hcmpb])
    have c1 : w1.cell? ⟨bx, 0, none⟩ = some (.pointer (some ⟨bb, 0, none⟩)) := Below.keeps hk.ext _ _ (by simp [go_sem, kA, kB, hcmp, hcmpb])
    simp [Region.wanted, Oper.wp, Act.eval, go_sem, e4, gd, yielded, c0, c1, kA, kB, hcmp, hcmpb]
    exact hK _ _ (Below.refl _ _) rfl
    | 8, _ =>
    obtain rfl := Option.some.inj hoq
    intro a1 w1 K hk hK
    have d99 : a1.tmps.getD 99 undef = .pointer (some ⟨ba, 0, none⟩) := hk.deps ⟨7, .data⟩ (by simp) rfl _ _ rfl rfl
    have gd : a1.tmps[97]? = some (.bool true) := getD_bool (hk.deps ⟨5, .guard⟩ (by simp) rfl _ _ rfl rfl)
    simp [Region.wanted, Oper.wp, Act.eval, go_sem, d99, gd, yielded, kA, kB, hcmp, hcmpb]
    refine (HPA.out _ (HBW.out.trans ((below_trans (by repeat (first | exact Below.refl _ _ | (refine Below.drew ?_) | (refine below_drewN' ?_ _) | (refine below_alloc' ?_ _) | (refine Below.setCell ?_ (by first | exact Nat.le_refl _ | (simp; done) | (simp; omega)) _))) hk.ext).mono HBW.out.size))).mono ?_
    rintro e w9 ⟨u9, rfl, h9, hb9⟩
    exact hK _ _ hb9 h9
    | 9, _ =>
    obtain rfl := Option.some.inj hoq
    intro a1 w1 K hk hK
    have d98 : a1.tmps.getD 98 undef = .pointer (some ⟨bb, 0, none⟩) := hk.deps ⟨6, .data⟩ (by simp) rfl _ _ rfl rfl
    have D100 : PtNew w1 (a1.tmps.getD 100 undef) prA := hk.deps ⟨8, .data⟩ (by simp) rfl _ _ rfl rfl
    have gd : a1.tmps[97]? = some (.bool true) := getD_bool (hk.deps ⟨5, .guard⟩ (by simp) rfl _ _ rfl rfl)
    obtain ⟨A9, c9, eP, _⟩ := RdU.point D100.rd
    have ePx : a1.tmps[100]?.getD undef = .slice A9 prA.length c9 := by rw [← eP]; simp
    rw [eP] at D100
    simp [Region.wanted, Oper.wp, Act.eval, go_sem, d98, eP, ePx, gd, yielded, kA, kB]
    refine (HCB.out _ _ (HBW.out.trans ((below_trans (by repeat (first | exact Below.refl _ _ | (refine Below.drew ?_) | (refine below_drewN' ?_ _) | (refine below_alloc' ?_ _) | (refine Below.setCell ?_ (by first | exact Nat.le_refl _ | (simp; done) | (simp; omega)) _))) hk.ext).mono HBW.out.size)) D100.rd).mono ?_
    rintro e w9 ⟨rfl, hw9⟩
    exact hK _ _ (by rw [hw9]; exact Below.refl _ _) rfl
  · intro vs w3 hl hb3 hv
    match vs, hl with
    | [v0, v1, v2, v3, v4, v5, v6, v7, v8, v9], _ =>
    obtain rfl : v0 = .pointer (some ⟨bb, 0, none⟩) := hv 0 (by omega)
    obtain rfl : v1 = .int .i64 lvB := hv 1 (by omega)
    obtain rfl : v2 = .pointer (some ⟨ba, 0, none⟩) := hv 2 (by omega)
    obtain rfl : v3 = .int .i64 lvA := hv 3 (by omega)
    obtain rfl : v4 = .bool true := hv 4 (by omega)
    obtain rfl : v5 = .bool true := hv 5 (by omega)
    obtain rfl : v6 = .pointer (some ⟨bb, 0, none⟩) := hv 6 (by omega)
    obtain rfl : v7 = .pointer (some ⟨ba, 0, none⟩) := hv 7 (by omega)
    have q8 : PtNew w3 v8 prA := hv 8 (by omega)
    obtain rfl : v9 = .bool cv := hv 9 (by omega)
    clear hv
    simp only [putAll, List.take_succ_cons, List.take_zero, List.drop_succ_cons, List.drop_zero, Act.put, List.setIfInBounds_toArray, List.set_cons_succ, List.set_cons_zero]
    have HS2 := Lib.hid (HS.out.step hb3)
    clear hb3 HS HBW kA kB kS lA lB lS
    have HS := Lib.hid HS2.out
    clear HS2
    clear q8
    clear hcmp hcmpb HCM
    cases cv with
    | true =>
      go_wp2_with fail
      have HBW := Lib.hid HS.out.bel
      have kA := cell_of_one HS.out.ha
      have kB := cell_of_one HS.out.hb
      have kS := cell_of_one HS.out.hs
      have lA := lt_of_block HS.out.ha
      have lB := lt_of_block HS.out.hb
      have lS := lt_of_block HS.out.hs
      refine wp_region_vals 9 [fun z9 _ => z9 = .pointer (some ⟨ba, 0, none⟩),
        fun v9 w9 => PtNew w9 v9 prA,
        fun z9 _ => z9 = .pointer (some ⟨bb, 0, none⟩),
        fun z9 _ => z9 = .int .i64 lvB,
        fun z9 _ => z9 = .tuple #[.int .i64 (adr : Nat), .int .i64 0],
        fun z9 _ => z9 = .tuple #[.int .i64 (adr : Nat), .int .i64 0],
        fun z9 _ => z9 = .int .i64 (adr : Nat),
        fun z9 _ => z9 = .int .i64 0,
        fun z9 _ => z9 = .int .i64 (adr : Nat)]
        (by kernel_rfl) (by kernel_rfl) (by kernel_rfl) (by kernel_rfl) ?_ ?_ ?_
      · intro V hV v w1 w2 h hb
        simp only [List.mem_cons, List.not_mem_nil, or_false] at hV
        rcases hV with rfl | rfl | rfl | rfl | rfl | rfl | rfl | rfl | rfl
        all_goals first | exact h | (exact PtNew.below h hb)
      · intro iq oq hiq hoq
        match iq, hiq with
        | 0, _ =>
        obtain rfl := Option.some.inj hoq
        intro a1 w1 K hk hK
        have e4 : a1.tmps.getD 4 undef = .pointer (some ⟨ab, 0, none⟩) := hk.same 4 (by simp)
        have c0 : w1.cell? ⟨ab, 0, none⟩ = some (.pointer (some ⟨ba, 0, none⟩)) := Below.keeps hk.ext _ _ (by simp [go_sem, kA, kB])
        have c1 : w1.cell? ⟨bx, 0, none⟩ = some (.pointer (some ⟨bb, 0, none⟩)) := Below.keeps hk.ext _ _ (by simp [go_sem, kA, kB])
        simp [Region.wanted, Oper.wp, Act.eval, go_sem, e4, c0, c1, kA, kB]
        exact hK _ _ (Below.refl _ _) rfl
        | 1, _ =>
        obtain rfl := Option.some.inj hoq
        intro a1 w1 K hk hK
        have d104 : a1.tmps.getD 104 undef = .pointer (some ⟨ba, 0, none⟩) := hk.deps ⟨0, .data⟩ (by simp) rfl _ _ rfl rfl
        simp [Region.wanted, Oper.wp, Act.eval, go_sem, d104, kA, kB]
        refine (HPA.out _ (HBW.out.trans ((below_trans (by repeat (first | exact Below.refl _ _ | (refine Below.drew ?_) | (refine below_drewN' ?_ _) | (refine below_alloc' ?_ _) | (refine Below.setCell ?_ (by first | exact Nat.le_refl _ | (simp; done) | (simp; omega)) _))) hk.ext).mono HBW.out.size))).mono ?_
        rintro e w9 ⟨u9, rfl, h9, hb9⟩
        exact hK _ _ hb9 h9
        | 2, _ =>
        obtain rfl := Option.some.inj hoq
        intro a1 w1 K hk hK
        have e5 : a1.tmps.getD 5 undef = .pointer (some ⟨bx, 0, none⟩) := hk.same 5 (by simp)
        have c0 : w1.cell? ⟨ab, 0, none⟩ = some (.pointer (some ⟨ba, 0, none⟩)) := Below.keeps hk.ext _ _ (by simp [go_sem, kA, kB])
        have c1 : w1.cell? ⟨bx, 0, none⟩ = some (.pointer (some ⟨bb, 0, none⟩)) := Below.keeps hk.ext _ _ (by simp [go_sem, kA, kB])
        simp [Region.wanted, Oper.wp, Act.eval, go_sem, e5, c0, c1, kA, kB]
        exact hK _ _ (Below.refl _ _) rfl
        | 3, _ =>
        obtain rfl := Option.some.inj hoq
        intro a1 w1 K hk hK
        have d106 : a1.tmps.getD 106 undef = .pointer (some ⟨bb, 0, none⟩) := hk.deps ⟨2, .data⟩ (by simp) rfl _ _ rfl rfl
        simp [Region.wanted, Oper.wp, Act.eval, go_sem, d106, kA, kB]
        refine (HLB.out _ (HBW.out.trans ((below_trans (by repeat (first | exact Below.refl _ _ | (refine Below.drew ?_) | (refine below_drewN' ?_ _) | (refine below_alloc' ?_ _) | (refine Below.setCell ?_ (by first | exact Nat.le_refl _ | (simp; done) | (simp; omega)) _))) hk.ext).mono HBW.out.size))).mono ?_
        rintro e w9 ⟨rfl, hw9⟩
        exact hK _ _ (by rw [hw9]; exact Below.refl _ _) rfl
        | 4, _ =>
        obtain rfl := Option.some.inj hoq
        intro a1 w1 K hk hK
        have D105 : PtNew w1 (a1.tmps.getD 105 undef) prA := hk.deps ⟨1, .data⟩ (by simp) rfl _ _ rfl rfl
        have d107 : a1.tmps.getD 107 undef = .int .i64 lvB := hk.deps ⟨3, .data⟩ (by simp) rfl _ _ rfl rfl
        obtain ⟨AP, cP, eP, _⟩ := RdU.point D105.rd
        have ePx : a1.tmps[105]?.getD undef = .slice AP prA.length cP := by rw [← eP]; simp
        rw [eP] at D105
        simp [Region.wanted, Oper.wp, Act.eval, go_sem, d107, eP, ePx, kA, kB]
        refine (HADR.out _ _ D105.rd).mono ?_
        rintro e w9 ⟨rfl, hw9⟩
        exact hK _ _ (by rw [hw9]; exact Below.refl _ _) rfl
        | 5, _ =>
        obtain rfl := Option.some.inj hoq
        intro a1 w1 K hk hK
        have d108 : a1.tmps.getD 108 undef = .tuple #[.int .i64 (adr : Nat), .int .i64 0] := hk.deps ⟨4, .data⟩ (by simp) rfl _ _ rfl rfl
        simp [Region.wanted, Oper.wp, Act.eval, go_sem, d108, kA, kB]
        exact hK _ _ (Below.refl _ _) rfl
        | 6, _ =>
        obtain rfl := Option.some.inj hoq
        intro a1 w1 K hk hK
        have d103 : a1.tmps.getD 103 undef = .tuple #[.int .i64 (adr : Nat), .int .i64 0] := hk.deps ⟨5, .data⟩ (by simp) rfl _ _ rfl rfl
        simp [Region.wanted, Oper.wp, Act.eval, go_sem, d103, kA, kB]
        exact hK _ _ (Below.refl _ _) rfl
        | 7, _ =>
        obtain rfl := Option.some.inj hoq
        intro a1 w1 K hk hK
        have d103 : a1.tmps.getD 103 undef = .tuple #[.int .i64 (adr : Nat), .int .i64 0] := hk.deps ⟨5, .data⟩ (by simp) rfl _ _ rfl rfl
        simp [Region.wanted, Oper.wp, Act.eval, go_sem, d103, kA, kB]
        exact hK _ _ (Below.refl _ _) rfl
        | 8, _ =>
        obtain rfl := Option.some.inj hoq
        intro a1 w1 K hk hK
        have d109 : a1.tmps.getD 109 undef = .int .i64 (adr : Nat) := hk.deps ⟨6, .data⟩ (by simp) rfl _ _ rfl rfl
        simp [Region.wanted, Oper.wp, Act.eval, go_sem, d109, kA, kB]
        exact hK _ _ (Below.refl _ _) rfl
      · intro vs w3 hl hb3 hv
        match vs, hl with
        | [v0, v1, v2, v3, v4, v5, v6, v7, v8], _ =>
        obtain rfl : v0 = .pointer (some ⟨ba, 0, none⟩) := hv 0 (by omega)
        have q1 : PtNew w3 v1 prA := hv 1 (by omega)
        obtain rfl : v2 = .pointer (some ⟨bb, 0, none⟩) := hv 2 (by omega)
        obtain rfl : v3 = .int .i64 lvB := hv 3 (by omega)
        obtain rfl : v4 = .tuple #[.int .i64 (adr : Nat), .int .i64 0] := hv 4 (by omega)
        obtain rfl : v5 = .tuple #[.int .i64 (adr : Nat), .int .i64 0] := hv 5 (by omega)
        obtain rfl : v6 = .int .i64 (adr : Nat) := hv 6 (by omega)
        obtain rfl : v7 = .int .i64 0 := hv 7 (by omega)
        obtain rfl : v8 = .int .i64 (adr : Nat) := hv 8 (by omega)
        clear hv
        simp only [putAll, List.take_succ_cons, List.take_zero, List.drop_succ_cons, List.drop_zero, Act.put, List.setIfInBounds_toArray, List.set_cons_succ, List.set_cons_zero]
        have HS2 := Lib.hid (HS.out.step hb3)
        clear hb3 HS HBW kA kB kS lA lB lS
        have HS := Lib.hid HS2.out
        clear HS2
        clear q1
        have HBW := Lib.hid HS.out.bel
        have kA := cell_of_one HS.out.ha
        have kB := cell_of_one HS.out.hb
        have kS := cell_of_one HS.out.hs
        have lA := lt_of_block HS.out.ha
        have lB := lt_of_block HS.out.hb
        have lS := lt_of_block HS.out.hs
        have HBS := Lib.hid (HBES.out (by first | trivial | rfl) _ _ _ _ HS.out HN3.out)
        go_wp2_with fail
        refine HBS.out.mono ?_
        rintro e w7 ⟨rfl, hi7, hk7⟩
        have HF := Lib.hid (And.intro hi7 (HS.out.kp.trans hk7))
        clear hi7 hk7
        go_wp2_with fail
        go_end0
        exact ⟨rfl, HF.out⟩
    | false =>
      have HORD := Lib.hid (HOR.out rfl)
      clear HOR
      go_wp2_with fail
      have HBW := Lib.hid HS.out.bel
      have kA := cell_of_one HS.out.ha
      have kB := cell_of_one HS.out.hb
      have kS := cell_of_one HS.out.hs
      have lA := lt_of_block HS.out.ha
      have lB := lt_of_block HS.out.hb
      have lS := lt_of_block HS.out.hs
      refine wp_region_vals 9 [fun z9 _ => z9 = .pointer (some ⟨ba, 0, none⟩),
        fun v9 w9 => PtNew w9 v9 prA,
        fun z9 _ => z9 = .pointer (some ⟨bb, 0, none⟩),
        fun v9 w9 => PtNew w9 v9 prB,
        fun z9 _ => z9 = .tuple #[.int .i64 z, .int .i64 0],
        fun z9 _ => z9 = .tuple #[.int .i64 z, .int .i64 0],
        fun z9 _ => z9 = .int .i64 z,
        fun z9 _ => z9 = .int .i64 0,
        fun z9 _ => z9 = .int .i64 z]
        (by kernel_rfl) (by kernel_rfl) (by kernel_rfl) (by kernel_rfl) ?_ ?_ ?_
      · intro V hV v w1 w2 h hb
        simp only [List.mem_cons, List.not_mem_nil, or_false] at hV
        rcases hV with rfl | rfl | rfl | rfl | rfl | rfl | rfl | rfl | rfl
        all_goals first | exact h | (exact PtNew.below h hb)
      · intro iq oq hiq hoq
        match iq, hiq with
        | 0, _ =>
        obtain rfl := Option.some.inj hoq
        intro a1 w1 K hk hK
        have e4 : a1.tmps.getD 4 undef = .pointer (some ⟨ab, 0, none⟩) := hk.same 4 (by simp)
        have c0 : w1.cell? ⟨ab, 0, none⟩ = some (.pointer (some ⟨ba, 0, none⟩)) := Below.keeps hk.ext _ _ (by simp [go_sem, kA, kB])
        have c1 : w1.cell? ⟨bx, 0, none⟩ = some (.pointer (some ⟨bb, 0, none⟩)) := Below.keeps hk.ext _ _ (by simp [go_sem, kA, kB])
        simp [Region.wanted, Oper.wp, Act.eval, go_sem, e4, c0, c1, kA, kB]
        exact hK _ _ (Below.refl _ _) rfl
        | 1, _ =>
        obtain rfl := Option.some.inj hoq
        intro a1 w1 K hk hK
        have d13 : a1.tmps.getD 13 undef = .pointer (some ⟨ba, 0, none⟩) := hk.deps ⟨0, .data⟩ (by simp) rfl _ _ rfl rfl
        simp [Region.wanted, Oper.wp, Act.eval, go_sem, d13, kA, kB]
        refine (HPA.out _ (HBW.out.trans ((below_trans (by repeat (first | exact Below.refl _ _ | (refine Below.drew ?_) | (refine below_drewN' ?_ _) | (refine below_alloc' ?_ _) | (refine Below.setCell ?_ (by first | exact Nat.le_refl _ | (simp; done) | (simp; omega)) _))) hk.ext).mono HBW.out.size))).mono ?_
        rintro e w9 ⟨u9, rfl, h9, hb9⟩
        exact hK _ _ hb9 h9
        | 2, _ =>
        obtain rfl := Option.some.inj hoq
        intro a1 w1 K hk hK
        have e5 : a1.tmps.getD 5 undef = .pointer (some ⟨bx, 0, none⟩) := hk.same 5 (by simp)
        have c0 : w1.cell? ⟨ab, 0, none⟩ = some (.pointer (some ⟨ba, 0, none⟩)) := Below.keeps hk.ext _ _ (by simp [go_sem, kA, kB])
        have c1 : w1.cell? ⟨bx, 0, none⟩ = some (.pointer (some ⟨bb, 0, none⟩)) := Below.keeps hk.ext _ _ (by simp [go_sem, kA, kB])
        simp [Region.wanted, Oper.wp, Act.eval, go_sem, e5, c0, c1, kA, kB]
        exact hK _ _ (Below.refl _ _) rfl
        | 3, _ =>
        obtain rfl := Option.some.inj hoq
        intro a1 w1 K hk hK
        have d15 : a1.tmps.getD 15 undef = .pointer (some ⟨bb, 0, none⟩) := hk.deps ⟨2, .data⟩ (by simp) rfl _ _ rfl rfl
        simp [Region.wanted, Oper.wp, Act.eval, go_sem, d15, kA, kB]
        refine (HPB.out _ (HBW.out.trans ((below_trans (by repeat (first | exact Below.refl _ _ | (refine Below.drew ?_) | (refine below_drewN' ?_ _) | (refine below_alloc' ?_ _) | (refine Below.setCell ?_ (by first | exact Nat.le_refl _ | (simp; done) | (simp; omega)) _))) hk.ext).mono HBW.out.size))).mono ?_
        rintro e w9 ⟨u9, rfl, h9, hb9⟩
        exact hK _ _ hb9 h9
        | 4, _ =>
        obtain rfl := Option.some.inj hoq
        intro a1 w1 K hk hK
        have D14 : PtNew w1 (a1.tmps.getD 14 undef) prA := hk.deps ⟨1, .data⟩ (by simp) rfl _ _ rfl rfl
        have D16 : PtNew w1 (a1.tmps.getD 16 undef) prB := hk.deps ⟨3, .data⟩ (by simp) rfl _ _ rfl rfl
        obtain ⟨AP, cP, eP, _⟩ := RdU.point D14.rd
        have ePx : a1.tmps[14]?.getD undef = .slice AP prA.length cP := by rw [← eP]; simp
        rw [eP] at D14
        obtain ⟨AQ, cQ, eQ, _⟩ := RdU.point D16.rd
        have eQx : a1.tmps[16]?.getD undef = .slice AQ prB.length cQ := by rw [← eQ]; simp
        rw [eQ] at D16
        simp [Region.wanted, Oper.wp, Act.eval, go_sem, eP, ePx, eQ, eQx, kA, kB]
        refine (HCMP.out _ _ _ D14.rd D16.rd).mono ?_
        rintro e w9 ⟨rfl, hw9⟩
        exact hK _ _ (by rw [hw9]; exact Below.refl _ _) rfl
        | 5, _ =>
        obtain rfl := Option.some.inj hoq
        intro a1 w1 K hk hK
        have d17 : a1.tmps.getD 17 undef = .tuple #[.int .i64 z, .int .i64 0] := hk.deps ⟨4, .data⟩ (by simp) rfl _ _ rfl rfl
        simp [Region.wanted, Oper.wp, Act.eval, go_sem, d17, kA, kB]
        exact hK _ _ (Below.refl _ _) rfl
        | 6, _ =>
        obtain rfl := Option.some.inj hoq
        intro a1 w1 K hk hK
        have d12 : a1.tmps.getD 12 undef = .tuple #[.int .i64 z, .int .i64 0] := hk.deps ⟨5, .data⟩ (by simp) rfl _ _ rfl rfl
        simp [Region.wanted, Oper.wp, Act.eval, go_sem, d12, kA, kB]
        exact hK _ _ (Below.refl _ _) rfl
        | 7, _ =>
        obtain rfl := Option.some.inj hoq
        intro a1 w1 K hk hK
        have d12 : a1.tmps.getD 12 undef = .tuple #[.int .i64 z, .int .i64 0] := hk.deps ⟨5, .data⟩ (by simp) rfl _ _ rfl rfl
        simp [Region.wanted, Oper.wp, Act.eval, go_sem, d12, kA, kB]
        exact hK _ _ (Below.refl _ _) rfl
        | 8, _ =>
        obtain rfl := Option.some.inj hoq
        intro a1 w1 K hk hK
        have d18 : a1.tmps.getD 18 undef = .int .i64 z := hk.deps ⟨6, .data⟩ (by simp) rfl _ _ rfl rfl
        simp [Region.wanted, Oper.wp, Act.eval, go_sem, d18, kA, kB]
        exact hK _ _ (Below.refl _ _) rfl
      · intro vs w3 hl hb3 hv
        match vs, hl with
        | [v0, v1, v2, v3, v4, v5, v6, v7, v8], _ =>
        obtain rfl : v0 = .pointer (some ⟨ba, 0, none⟩) := hv 0 (by omega)
        have q1 : PtNew w3 v1 prA := hv 1 (by omega)
        obtain rfl : v2 = .pointer (some ⟨bb, 0, none⟩) := hv 2 (by omega)
        have q3 : PtNew w3 v3 prB := hv 3 (by omega)
        obtain rfl : v4 = .tuple #[.int .i64 z, .int .i64 0] := hv 4 (by omega)
        obtain rfl : v5 = .tuple #[.int .i64 z, .int .i64 0] := hv 5 (by omega)
        obtain rfl : v6 = .int .i64 z := hv 6 (by omega)
        obtain rfl : v7 = .int .i64 0 := hv 7 (by omega)
        obtain rfl : v8 = .int .i64 z := hv 8 (by omega)
        clear hv
        simp only [putAll, List.take_succ_cons, List.take_zero, List.drop_succ_cons, List.drop_zero, Act.put, List.setIfInBounds_toArray, List.set_cons_succ, List.set_cons_zero]
        have HS2 := Lib.hid (HS.out.step hb3)
        clear hb3 HS HBW kA kB kS lA lB lS
        have HS := Lib.hid HS2.out
        clear HS2
        clear q1 q3
        by_cases hz : z < 0
        · have HE := Lib.hid (HORD.out.1 (by omega))
          have HBW := Lib.hid HS.out.bel
          have kA := cell_of_one HS.out.ha
          have kB := cell_of_one HS.out.hb
          have kS := cell_of_one HS.out.hs
          have lA := lt_of_block HS.out.ha
          have lB := lt_of_block HS.out.hb
          have lS := lt_of_block HS.out.hs
          go_wp2_with fail
          refine (HALA.out _ _ HS.out.inv L1.out).mono ?_
          rintro e w7 ⟨rfl, hi7, hk7⟩
          have HS2 := Lib.hid (HS.out.go HN3.out hi7 hk7)
          clear hi7 hk7 HBW kA kB kS lA lB lS
          have kA := cell_of_one HS2.out.ha
          have kB := cell_of_one HS2.out.hb
          have kS := cell_of_one HS2.out.hs
          have lA := lt_of_block HS2.out.ha
          have lB := lt_of_block HS2.out.hb
          have lS := lt_of_block HS2.out.hs
          go_wp2_with fail
          refine (HALB.out _ _ HS2.out.inv L2.out).mono ?_
          rintro e w8 ⟨rfl, hi8, hk8⟩
          have HF := Lib.hid (And.intro hi8 (HS2.out.kp.trans hk8))
          clear hi8 hk8
          go_wp2_with fail
          go_end0
          rw [HE.out, ← List.append_assoc]
          exact ⟨rfl, HF.out⟩
        · have HE := Lib.hid (HORD.out.2 (by omega))
          have HBW := Lib.hid HS.out.bel
          have kA := cell_of_one HS.out.ha
          have kB := cell_of_one HS.out.hb
          have kS := cell_of_one HS.out.hs
          have lA := lt_of_block HS.out.ha
          have lB := lt_of_block HS.out.hb
          have lS := lt_of_block HS.out.hs
          go_wp2_with fail
          refine (HALB.out _ _ HS.out.inv L3.out).mono ?_
          rintro e w7 ⟨rfl, hi7, hk7⟩
          have HS2 := Lib.hid (HS.out.go HN3.out hi7 hk7)
          clear hi7 hk7 HBW kA kB kS lA lB lS
          have kA := cell_of_one HS2.out.ha
          have kB := cell_of_one HS2.out.hb
          have kS := cell_of_one HS2.out.hs
          have lA := lt_of_block HS2.out.ha
          have lB := lt_of_block HS2.out.hb
          have lS := lt_of_block HS2.out.hs
          go_wp2_with fail
          refine (HALA.out _ _ HS2.out.inv L4.out).mono ?_
          rintro e w8 ⟨rfl, hi8, hk8⟩
          have HF := Lib.hid (And.intro hi8 (HS2.out.kp.trans hk8))
          clear hi8 hk8
          go_wp2_with fail
          go_end0
          rw [HE.out, ← List.append_assoc]
          exact ⟨rfl, HF.out⟩
end Go.Proofs.Ytjokcagggmjgmaa
/-! DifL -/
namespace Go.Proofs.Ytjokcagggmjgmaa
open Go.RowKit
set_option linter.unusedVariables false
set_option linter.unusedSimpArgs false
set_option maxRecDepth 100000

theorem both_any (W : World) (B k : Nat) (hW : W.heap.size ≤ B) (k1 : 1 ≤ k) (k16 : k ≤ 16) : ∀ N, BoIH W B k N := by
  intro N
  induction N using Nat.strongRecOn with
  | ind N IH =>
    intro ra rb lx ly w' d' ha hb hlt hi hN
    cases ra with
    | none =>
      cases rb with
      | none => exact both_same W w' B k none lx ly d' ha hb hi
      | some b =>
        have e : lx = [] := ha
        subst e
        exact both_come W w' B k b ly d' hW k1 k16 hb hi (by simpa using hN)
    | some a =>
      cases rb with
      | none =>
        have e : ly = [] := hb
        subst e
        exact both_gone W w' B k a lx d' hW k1 k16 ha hi (by simpa using hN)
      | some b =>
        by_cases hab : a = b
        · subst hab
          exact both_same W w' B k (some a) lx ly d' ha hb hi
        · have ih := IH (lx.length + ly.length) hlt
          rcases Nat.lt_trichotomy (lev lx) (lev ly) with h | h | h
          · exact both_lt W w' B k a b lx ly d' hW k1 k16 ha hb hab hi hN ih h
          · exact both_eq W w' B k a b lx ly d' hW k1 k16 ha hb hab hi hN ih h
          · exact both_gt W w' B k a b lx ly d' hW k1 k16 ha hb hab hi hN ih h
end Go.Proofs.Ytjokcagggmjgmaa
/-! DifO -/
namespace Go.Proofs.Ytjokcagggmjgmaa
open Go.RowKit
set_option linter.unusedVariables false
set_option linter.unusedSimpArgs false
set_option maxRecDepth 100000

theorem dcheck_any (w : World) (a b k : Nat) (la lb : List En) (ha : TrR w a k la) (hb : TrR w b k lb) :
    Calls Try.prog 46 #[.pointer (some ⟨a, 0, none⟩), .pointer (some ⟨b, 0, none⟩)] w fun e w' => e = .returned (.int .i64 0) ∧ w' = w := by
  have HK1 := Lib.hid (tk_any w a k ha.c0)
  have HK2 := Lib.hid (tk_any w b k hb.c0)
  clear ha hb
  go_enter Try.func46, Try.ntmps46
  go_wp2_with fail
  refine (HK1.out).mono ?_
  rintro e w1 ⟨rfl, hw⟩
  obtain rfl := hw.symm
  clear hw
  go_wp2_with fail
  refine (HK2.out).mono ?_
  rintro e w1 ⟨rfl, hw⟩
  obtain rfl := hw.symm
  clear hw
  go_wp2_with fail
  go_ret
  exact ⟨rfl, rfl⟩
/-- what Changes hands back -/
def ChgP (W : World) (d : List Ch) (e : Ending) (w' : World) : Prop := ∃ v, e = .returned (.tuple #[v, .int .i64 0]) ∧ OwnC (PtNew w') W w' v d ∧ Below W.heap.size W w'
set_option maxHeartbeats 4000000 in
theorem changes_any (w : World) (a b k : Nat) (la lb : List En) (ha : TrR w a k la) (hb : TrR w b k lb) (hN : la.length + lb.length ≤ 10000) :
    Calls Try.prog 20 #[.pointer (some ⟨a, 0, none⟩), .pointer (some ⟨b, 0, none⟩)] w fun e w' => ChgP w (changesL la lb) e w' := by
  have HCK := Lib.hid (dcheck_any w a b k la lb ha hb)
  obtain ⟨ra, hra, hla⟩ := ha.c1
  obtain ⟨rb, hrb, hlb⟩ := hb.c1
  have HBO := Lib.hid (fun (w' : World) (h : InvT w w.heap.size [] w') => both_any w w.heap.size k (Nat.le_refl _) ha.k1 ha.k16 _ ra rb la lb w' [] hla hlb (Nat.lt_succ_self _) h (by simpa using hN))
  obtain ⟨q1, hq1⟩ := pv_ex ra
  obtain ⟨q2, hq2⟩ := pv_ex rb
  rw [hq1, hq2] at HBO
  rw [hq1] at hra
  rw [hq2] at hrb
  have HR1 := Lib.hid (fun (w' : World) (h : Below w.heap.size w w') => troot_any w' a q1 (Below.keeps h _ _ hra))
  have HR2 := Lib.hid (fun (w' : World) (h : Below w.heap.size w w') => troot_any w' b q2 (Below.keeps h _ _ hrb))
  have H0 := Lib.hid (show InvT w w.heap.size [] (w.alloc (.cells #[.slice none 0 0] 49)) from ⟨_, alloc_blk _ _, OwnC.nil _ _ _, (by repeat (first | exact Below.refl _ _ | (refine Below.drew ?_) | (refine below_drewN' ?_ _) | (refine below_alloc' ?_ _) | (refine Below.setCell ?_ (by first | exact Nat.le_refl _ | (simp; done) | (simp; omega)) _)))⟩)
  clear ha hb hra hrb hla hlb hq1 hq2 hN
  go_enter Try.func20, Try.ntmps20
  go_wp2_with fail
  refine (HCK.out).mono ?_
  rintro e w1 ⟨rfl, hw⟩
  obtain rfl := hw.symm
  clear hw
  go_wp2_with fail
  refine (HR1.out _ (by repeat (first | exact Below.refl _ _ | (refine Below.drew ?_) | (refine below_drewN' ?_ _) | (refine below_alloc' ?_ _) | (refine Below.setCell ?_ (by first | exact Nat.le_refl _ | (simp; done) | (simp; omega)) _)))).mono ?_
  rintro e w1 ⟨rfl, hw⟩
  obtain rfl := hw.symm
  clear hw
  go_wp2_with fail
  refine (HR2.out _ (by repeat (first | exact Below.refl _ _ | (refine Below.drew ?_) | (refine below_drewN' ?_ _) | (refine below_alloc' ?_ _) | (refine Below.setCell ?_ (by first | exact Nat.le_refl _ | (simp; done) | (simp; omega)) _)))).mono ?_
  rintro e w1 ⟨rfl, hw⟩
  obtain rfl := hw.symm
  clear hw
  go_wp2_with fail
  refine (HBO.out _ H0.out).mono ?_
  rintro e w1 ⟨rfl, ⟨vo, hblk, hown, hb⟩, _⟩
  rw [List.nil_append] at hown
  have HF := Lib.hid (And.intro hown hb)
  have kb := cell_of_one hblk
  have hl := lt_of_block hblk
  clear hown hb hblk H0
  go_wp2_with fail
  refine bodyPost_ret (v := .tuple #[vo, .int .i64 0]) (by simp [results, Try.results20, go_sem]) rfl ?_
  exact ⟨_, rfl, HF.out⟩
end Go.Proofs.Ytjokcagggmjgmaa
/-! EditA -/
namespace Go.Proofs.Ytjokcagggmjgmaa
open Go.RowKit
set_option linter.unusedVariables false
set_option linter.unusedSimpArgs false

/-- what edit.Then hands back -/
def ThenQ (W : World) (r : Bool) (o : Option (List Ch)) (e : Ending) (w' : World) : Prop :=
  (match r, o with
  | false, _ => e = .returned (.tuple #[.slice none 0 0, .int .i64 9])
  | true, none => e = .returned (.tuple #[.slice none 0 0, .int .i64 7])
  | true, some l => ∃ A c, e = .returned (.tuple #[.slice A l.length c, .int .i64 0]) ∧ RdC w' (.slice A l.length c) l ∧ CapOk (.slice A l.length c)) ∧ Below W.heap.size W w'

theorem tell_any (W : World) (B : Nat) (a b : List Ch) (n : Nat) (ra : Rt n a) (rb : Rt n b) (n1 : 1 ≤ n) (n16 : n ≤ 16) (hW : W.heap.size ≤ B) (d : List (Option Ch × Option Ch)) (p : Option Ch × Option Ch) (px py : Value) (w : World)
    (hi : InvT W B (d.filterMap combC) w) (hx : PtrC w px p.1) (hy : PtrC w py p.2) (ha : ∀ x, p.1 = some x → x ∈ a) (hb : ∀ y, p.2 = some y → y ∈ b) (hd : d.length ≤ 1000) (hp : p ≠ (none, none)) :
    Calls Try.prog 51 #[px, py, .pointer (some ⟨B, 0, none⟩)] w fun e w' => e = .returned (.bool (fitC p)) ∧ (fitC p = true → InvT W B ((d ++ [p]).filterMap combC) w') ∧ Below W.heap.size W w' := by
  have hl : (d.filterMap combC).length ≤ 10000 := Nat.le_trans (List.length_filterMap_le _ _) (by omega)
  obtain ⟨p1, p2⟩ := p
  cases p1 with
  | none =>
    cases p2 with
    | none => exact absurd rfl hp
    | some y =>
      obtain rfl : px = .pointer none := hx
      have hm := hb y rfl
      refine (tellY W w B _ y py hW hi hy (by rw [rb.len y hm]; exact n1) (by rw [rb.len y hm]; omega) hl).mono fun e w' ⟨h1, h2⟩ => ⟨h1, fun _ => ?_, h2.bel⟩
      rw [List.filterMap_append]; exact h2
  | some x =>
    have hm := ha x rfl
    cases p2 with
    | none =>
      obtain rfl : py = .pointer none := hy
      refine (tellX W w B _ x px hW hi hx (by rw [ra.len x hm]; exact n1) (by rw [ra.len x hm]; omega) hl).mono fun e w' ⟨h1, h2⟩ => ⟨h1, fun _ => ?_, h2.bel⟩
      rw [List.filterMap_append]; exact h2
    | some y =>
      refine (tellXY W w B _ x y px py hW hi hx hy (by rw [ra.len x hm]; exact n1) (by rw [ra.len x hm]; omega) hl).mono fun e w' ⟨h1, h2, h3⟩ => ⟨h1, fun h => ?_, h3⟩
      have := h2 h
      rw [List.filterMap_append]
      cases hc : combC (some x, some y) with
      | none => rw [hc] at this; simpa [hc] using this
      | some z => rw [hc] at this; simpa [hc] using this

set_option maxRecDepth 8000 in
set_option maxHeartbeats 1000000 in
theorem eThen_any (k : Int) (a b : List Ch) (va vb : Value) (w : World) (ha : RdC w va a ∧ CapOk va) (hb : RdC w vb b ∧ CapOk vb) (na : a.length ≤ 400) (nb : b.length ≤ 400) (oa : OkC a) (ob : OkC b) :
    Calls Try.prog 21 #[.int .i64 k, va, vb] w fun e w' => ThenQ w (rightL k a && rightL k b) (thenL a b) e w' := by
  have H1 := Lib.hid (eRight_any k a va w ha.1 (by omega) oa)
  have H2 := Lib.hid (fun (w' : World) (h : RdC w' vb b) => eRight_any k b vb w' h (by omega) ob)
  have HR := Lib.hid (And.intro ha hb)
  have HO := Lib.hid (And.intro oa (And.intro ob (And.intro na nb)))
  clear ha hb na nb oa ob
  cases r1 : rightL k a with
  | false =>
    rw [r1] at H1
    clear r1 H2 HO
    go_enter Try.func21, Try.ntmps21
    go_wp2_with fail
    refine H1.out.mono ?_
    rintro e w1 ⟨rfl, hb1⟩
    go_wp2_with fail
    go_ret2
    exact ⟨rfl, hb1⟩
  | true =>
    rw [r1] at H1
    cases r2 : rightL k b with
    | false =>
      rw [r2] at H2
      clear r1 r2 HO
      go_enter Try.func21, Try.ntmps21
      go_wp2_with fail
      refine H1.out.mono ?_
      rintro e w1 ⟨rfl, hb1⟩
      have HB1 := Lib.hid hb1
      clear hb1
      go_wp2_with fail
      refine (H2.out _ (HR.out.2.1.below HB1.out)).mono ?_
      rintro e w2 ⟨rfl, hb2⟩
      have HB2 := Lib.hid (HB1.out.trans (hb2.mono HB1.out.size))
      clear hb2
      go_wp2_with fail
      go_ret2
      exact ⟨rfl, HB2.out⟩
    | true =>
      rw [r2] at H2
      obtain ⟨n, rfl, n1, n16, ra⟩ := rightL_rt HO.out.1 r1
      obtain ⟨n', e', _, _, rb⟩ := rightL_rt HO.out.2.1 r2
      obtain rfl : n' = n := by omega
      have HP := Lib.hid (fun (B : Nat) (w' : World) (hB : w.heap.size ≤ B) (hi : InvT w B [] w') => pairs_any w w' 51 #[.pointer (some ⟨B, 0, none⟩)] fitC (fun d w'' => InvT w B (d.filterMap combC) w'') a b va vb n' ra rb ⟨n1, n16⟩ (by have := HO.out.2.2; omega) (enters_func Try.func51 (by kernel_rfl) (by kernel_rfl))
        (fun d p px py w2 h1 _ hx hy h2 h3 h4 h5 => tell_any w B a b n' ra rb n1 n16 hB d p px py w2 h1 hx hy h2 h3 h4 h5) (fun d w2 m ⟨vo, q1, q2, q3⟩ => ⟨vo, q1, (q2.below (drewN_below w2 m)).mono fun u p h => h.below (drewN_below w2 m), Bdrew q3 m⟩) hi hi.bel HR.out.1 HR.out.2)
      have HL := Lib.hid (show thenL a b = if (pairs a b).all fitC then some ((pairs a b).filterMap combC) else none from rfl)
      clear ra rb r1 r2 e' n1 n16
      go_enter Try.func21, Try.ntmps21
      go_wp2_with fail
      refine H1.out.mono ?_
      rintro e w1 ⟨rfl, hb1⟩
      have HB1 := Lib.hid hb1
      clear hb1
      go_wp2_with fail
      refine (H2.out _ (HR.out.2.1.below HB1.out)).mono ?_
      rintro e w2 ⟨rfl, hb2⟩
      have HB2 := Lib.hid (HB1.out.trans (hb2.mono HB1.out.size))
      clear hb2
      go_wp2_with fail
      refine (HP.out _ _ HB2.out.size ⟨.slice none 0 0, heap_alloc_new _ _, OwnC.nil _ _ _, below_alloc' HB2.out _⟩).mono ?_
      rintro e w3 ⟨rfl, hi3, hb3⟩
      have HI3 := Lib.hid (And.intro hi3 hb3)
      clear hi3 hb3
      cases hall : (pairs a b).all fitC with
      | false =>
        rw [hall] at HL
        clear hall
        go_wp2_with fail
        go_ret2
        rw [show thenL a b = none from HL.out]
        exact ⟨rfl, HI3.out.2⟩
      | true =>
        rw [hall] at HL
        obtain ⟨vo, q1, q2, q3⟩ := HI3.out.1 hall
        obtain ⟨r1, r2⟩ := q2.rd fun u p h => h.rd
        have c1 := cell_of_one q1
        obtain ⟨A, c, rfl, hx⟩ := r1
        have HRes := Lib.hid (And.intro (show RdC w3 (.slice A ((pairs a b).filterMap combC).length c) ((pairs a b).filterMap combC) from ⟨A, c, rfl, hx⟩) r2)
        clear hall q1 q2 q3 hx r2
        go_wp2_with fail
        go_ret2
        rw [show thenL a b = some ((pairs a b).filterMap combC) from HL.out]
        exact ⟨⟨A, c, rfl, HRes.out.1, HRes.out.2⟩, HI3.out.2⟩
end Go.Proofs.Ytjokcagggmjgmaa
/-! SameE -/
namespace Go.Proofs.Ytjokcagggmjgmaa
open Go.RowKit
set_option linter.unusedVariables false
set_option linter.unusedSimpArgs false

/-- the same changes? -/
noncomputable def eqL (l m : List Ch) : Bool := @decide (l = m) (Classical.propDecidable _)
theorem eqL_true {l m : List Ch} (h : l = m) : eqL l m = true := by unfold eqL; exact @decide_eq_true _ (Classical.propDecidable _) h
theorem eqL_false {l m : List Ch} (h : l ≠ m) : eqL l m = false := by unfold eqL; exact @decide_eq_false _ (Classical.propDecidable _) h
theorem eqL_at {l m : List Ch} {j : Nat} (h1 : j < l.length) (h2 : j < m.length) (h : l[j] ≠ m[j]) : eqL l m = false := eqL_false fun e => by subst e; exact h rfl


theorem quiet_more {P : Program} {f : FuncId} {args : Array Value} {w : World} {n x : Nat} {v : Value}
    (h : Calls P f args (w.drewN (n + x)) fun e w'' => e = .returned v ∧ ∃ m, w'' = (w.drewN (n + x)).drewN m) : Calls P f args (w.drewN (n + x)) fun e w'' => e = .returned v ∧ ∃ m, w'' = w.drewN (n + m) :=
  h.mono fun e w' ⟨h1, q, h2⟩ => ⟨h1, x + q, by rw [h2, World.drewN_drewN, Nat.add_assoc]⟩

set_option maxRecDepth 100000 in
set_option maxHeartbeats 8000000 in
theorem rSameC_any (l m : List Ch) (va vb : Value) (w : World) (ha : RdC w va l) (hb : RdC w vb m) (hn : l.length ≤ 1000) (h40 : ∀ c ∈ l, c.p.length ≤ 40) :
    Calls Try.prog 22 #[va, vb] w fun e w' => e = .returned (.bool (eqL l m)) ∧ ∃ n, w' = w.drewN n := by
  obtain ⟨A, c, rfl, ga0⟩ := ha
  obtain ⟨B, d, rfl, gb0⟩ := hb
  have HD := Lib.hid (And.intro hn h40)
  clear hn h40
  by_cases hlm : l.length = m.length
  · have hne : ((l.length : Int) != (m.length : Int)) = false := by simp [hlm]
    have HL := Lib.hid hlm
    have HGA := Lib.hid ga0
    have HGB := Lib.hid gb0
    clear hlm ga0 gb0
    go_enter Try.func22, Try.ntmps22
    go_wp2_with fail
    go_loopw [5] (fun i wr => ∃ (j n : Nat), j ≤ l.length ∧ i = .int .i64 j ∧ l.take j = m.take j ∧ wr = w.drewN n) (fun i _ => l.length - (intOf i).toNat)
    case atStart => exact ⟨0, 0, Nat.zero_le _, rfl, rfl, rfl⟩
    case round =>
      obtain ⟨j, n, hj, rfl, htk, rfl⟩ := hrel
      by_cases hlt : j < l.length
      · have hmt : j < m.length := by have := HL.out; omega
        have h3 : (j : Int) < l.length := by omega
        have h4 : (j : Int) < m.length := by omega
        have h5 : (0 : Int) ≤ (j : Int) := by omega
        obtain ⟨bk, ofs, rfl, ga⟩ := HGA.out (by omega)
        obtain ⟨bk2, ofs2, rfl, gb⟩ := HGB.out (by omega)
        obtain ⟨v0, k0, hv0, k1, k2, k3, k4⟩ := ga j hlt
        obtain ⟨w0, m0, hw0, m1, m2, m3, m4⟩ := gb j hmt
        have HS := Lib.hid (fun (w' : World) (h1 : RdU w' v0 (pti l[j].p)) (h2 : RdU w' w0 (pti m[j].p)) => Same_any _ _ _ _ w' h1 h2 (by unfold pti; rw [List.length_map]; have := HD.out.2 _ (List.getElem_mem hlt); omega))
        rw [pti_inj] at HS
        have HV := Lib.hid (And.intro hv0 hw0)
        have HW := Lib.hid (show wrap64 ((j : Int) + 1) = ((j + 1 : Nat) : Int) by have := HD.out.1; unfold wrap64; omega)
        have HN := Lib.hid (show l[j] = m[j] → l.take (j + 1) = m.take (j + 1) from fun h => by rw [← List.take_append_getElem hlt, ← List.take_append_getElem hmt, htk, h])
        have HF := Lib.hid (show l[j] ≠ m[j] → eqL l m = false from eqL_at hlt hmt)
        obtain ⟨A0, cc, rfl, hx0⟩ := RdU.point hv0
        obtain ⟨A1, cd, rfl, hx1⟩ := RdU.point hw0
        clear ga gb hv0 hw0 hx0 hx1 htk
        generalize l[j] = x at *
        generalize m[j] = y at *
        obtain ⟨xp, xhad, xhas, xold, xnew⟩ := x
        obtain ⟨yp, yhad, yhas, yold, ynew⟩ := y
        simp only at k0 k1 k2 k3 k4 m0 m1 m2 m3 m4
        simp only at HS HV
        have hb0 : Below w.heap.size w (w.drewN n) := drewN_below _ _
        obtain ⟨b3, e3⟩ : ∃ b, ((xold : Int) != (yold : Int)) = b := ⟨_, rfl⟩
        obtain ⟨b4, e4⟩ : ∃ b, ((xnew : Int) != (ynew : Int)) = b := ⟨_, rfl⟩
        obtain ⟨b5, e5⟩ : ∃ b, decide (xp = yp) = b := ⟨_, rfl⟩
        rw [e5] at HS
        have HE := Lib.hid (And.intro e3 (And.intro e4 e5))
        clear e5
        have hcase : xhad = yhad ∨ (xhad = false ∧ yhad = true) ∨ (xhad = true ∧ yhad = false) := by cases xhad <;> cases yhad <;> simp
        rcases hcase with hq | hq | hq
        rotate_left
        · obtain ⟨rfl, rfl⟩ := hq
          have HF2 := Lib.hid (HF.out (by intro h; injection h with a1 a2 a3 a4 a5; cases a2))
          clear HN HF
          go_wp2_with fail
          go_quiet (fail)
          go_wp2_with fail
          go_ret
          exact ⟨by rw [HF2.out] <;> rfl, _, by first | rfl | exact World.drewN_drewN ..⟩
        · obtain ⟨rfl, rfl⟩ := hq
          have HF2 := Lib.hid (HF.out (by intro h; injection h with a1 a2 a3 a4 a5; cases a2))
          clear HN HF
          go_wp2_with fail
          go_quiet (fail)
          go_wp2_with fail
          go_ret
          exact ⟨by rw [HF2.out] <;> rfl, _, by first | rfl | exact World.drewN_drewN ..⟩
        · have hcase : xhas = yhas ∨ (xhas = false ∧ yhas = true) ∨ (xhas = true ∧ yhas = false) := by cases xhas <;> cases yhas <;> simp
          have HQ := Lib.hid hq
          rcases hcase with hr | hr | hr
          rotate_left
          · obtain ⟨rfl, rfl⟩ := hr
            subst hq
            cases xhad
            all_goals
              have HF2 := Lib.hid (HF.out (by intro h; injection h with a1 a2 a3 a4 a5; cases a3))
              clear HN HF
              go_wp2_with fail
              go_quiet (fail)
              go_wp2_with fail
              go_ret
              exact ⟨by rw [HF2.out] <;> rfl, _, by first | rfl | exact World.drewN_drewN ..⟩
          · obtain ⟨rfl, rfl⟩ := hr
            subst hq
            cases xhad
            all_goals
              have HF2 := Lib.hid (HF.out (by intro h; injection h with a1 a2 a3 a4 a5; cases a3))
              clear HN HF
              go_wp2_with fail
              go_quiet (fail)
              go_wp2_with fail
              go_ret
              exact ⟨by rw [HF2.out] <;> rfl, _, by first | rfl | exact World.drewN_drewN ..⟩
          · subst hq hr
            clear HQ
            cases b3 with
            | true =>
              cases xhad <;> cases xhas
              all_goals
                have HF2 := Lib.hid (HF.out (by intro h; injection h with a1 a2 a3 a4 a5; have := HE.out.1; rw [show xold = yold from by first | exact a4 | exact_mod_cast a4] at this; simp at this))
                clear HN HF
                go_wp2_with fail
                go_quiet (fail)
                go_wp2_with fail
                go_ret
                exact ⟨by rw [HF2.out] <;> rfl, _, by first | rfl | exact World.drewN_drewN ..⟩
            | false =>
              cases b4 with
              | true =>
                cases xhad <;> cases xhas
                all_goals
                  have HF2 := Lib.hid (HF.out (by intro h; injection h with a1 a2 a3 a4 a5; have := HE.out.2.1; rw [show xnew = ynew from by first | exact a5 | exact_mod_cast a5] at this; simp at this))
                  clear HN HF
                  go_wp2_with fail
                  go_quiet (fail)
                  go_wp2_with fail
                  go_ret
                  exact ⟨by rw [HF2.out] <;> rfl, _, by first | rfl | exact World.drewN_drewN ..⟩
              | false =>
                cases b5 with
                | false =>
                  cases xhad <;> cases xhas
                  all_goals
                    have HF2 := Lib.hid (HF.out (by intro h; injection h with a1 a2 a3 a4 a5; have := HE.out.2.2; rw [a1] at this; simp at this))
                    clear HN HF
                    go_wp2_with fail
                    go_quiet ((go_at_call 38; exact quiet_more (HS.out _ (RdU.drewN HV.out.1 _) (RdU.drewN HV.out.2 _))))
                    go_wp2_with fail
                    go_ret
                    exact ⟨by rw [HF2.out] <;> rfl, _, by first | rfl | exact World.drewN_drewN ..⟩
                | true =>
                  have h1 : xold = yold := by have := HE.out.1; simp only [bne_eq_false_iff_eq] at this; omega
                  have h2 : xnew = ynew := by have := HE.out.2.1; simp only [bne_eq_false_iff_eq] at this; omega
                  have h6 : xp = yp := by have := HE.out.2.2; simpa using this
                  have HN2 := Lib.hid (HN.out (by rw [h1, h2, h6]))
                  clear h1 h2 h6 HN HF HE
                  cases xhad <;> cases xhas
                  all_goals
                    go_wp2_with fail
                    go_quiet ((go_at_call 38; exact quiet_more (HS.out _ (RdU.drewN HV.out.1 _) (RdU.drewN HV.out.2 _))))
                    go_wp2_with fail
                    go_roundw
                    case rel => exact ⟨j + 1, _, by omega, by first | rw [HW.out] | exact congrArg (Value.int .i64) (by omega), HN2.out, by first | rfl | exact World.drewN_drewN ..⟩
                    case measure => first | (rw [intOf_of' HW.out, intOf_of' rfl]; omega) | (rw [intOf_of' rfl, intOf_of' rfl]; omega)
      · have HA := Lib.hid (show eqL l m = true from eqL_true (by rw [List.take_of_length_le (by omega), List.take_of_length_le (by have := HL.out; omega)] at htk; exact htk))
        clear htk
        go_wp2_with fail
        go_ret
        exact ⟨by rw [HA.out] <;> rfl, _, rfl⟩
  · have hne : ((l.length : Int) != (m.length : Int)) = true := by simp; omega
    have HF := Lib.hid (show eqL l m = false from eqL_false fun h => hlm (by rw [h]))
    clear hlm ga0 gb0
    go_enter Try.func22, Try.ntmps22
    go_wp2_with fail
    go_ret
    exact ⟨by rw [HF.out] <;> rfl, 0, rfl⟩
end Go.Proofs.Ytjokcagggmjgmaa
/-! OpenC -/
namespace Go.Proofs.Ytjokcagggmjgmaa
open Go.RowKit Go.ChangeShapes Go.WideShapes Go.Deep
set_option linter.unusedVariables false

section
variable {H : Type} {enc : TypeId × Value → H} {P : Program} {w : World} {base : Nat} {spare : Nat → Bool} {held : Bool}
theorem open_slice_fields {t e : TypeId} {fs : Array Field} {fuel : Nat} {cs : List Value} {x : DataW H × List MemPlace} (ht : P.underlying t = some (.slice e)) (he : P.underlying e = some (.struct fs))
    (hone : oneCellFields P fs = true) (hC : P.cellsOf e = fs.size) (h : DataW.trod enc P w base spare held fuel t cs = some x) :
    (cs = [.slice none 0 0]) ∨
    ∃ (a : Addr) (len cap m : Nat), cs = [.slice (some a) len cap] ∧ len ≤ cap ∧ cap ≤ maxLen ∧ m = (if spare a.block then cap else len) ∧
      ∀ i, i < m → ∀ (j : Nat) (f : Field), fs[j]? = some f → ∃ (v : Value) (y : DataW H × List MemPlace) (n : Nat), w.cell? (a.add (i * fs.size + j)) = some v ∧ DataW.trod enc P w base spare held n f.type [v] = some y := by
  rcases open_slice ht h with h0 | ⟨a, len, cap, m, n, D, Pl, hcs, hb, hl, hm, hmm, hx, hi⟩
  · exact .inl h0.1
  · refine .inr ⟨a, len, cap, m, hcs, hl, hm, hmm, fun i him => ?_⟩
    obtain ⟨cs', hc, ht'⟩ := hi i him
    rw [hC] at hc
    obtain ⟨ys, n', hn', hy, hlen, hyl, hf⟩ := DataW.trod_struct he ht'
    obtain ⟨_, hcl, hat⟩ := World.cells?_some hc
    intro j f hj
    obtain ⟨ho, hk⟩ := hone_of hone j f hj
    have hjl : j < fs.size := (Array.getElem?_eq_some_iff.1 hj).1
    have hcell := hat j hjl
    have hv : cs'[j]? = some (cs'[j]'(by omega)) := List.getElem?_eq_getElem (by omega)
    have h1 := hf j f hj
    rw [ho, hk] at h1
    have hone' : (cs'.drop j).take 1 = [cs'[j]'(by omega)] := by
      rw [List.drop_eq_getElem_cons (by omega)]
      rfl
    rw [hone'] at h1
    have hys : ys[j]? = some (ys[j]'(by omega)) := List.getElem?_eq_getElem (by omega)
    refine ⟨_, _, n', ?_, h1.trans hys⟩
    rw [← Go.Deep.add_add, hcell, hv]
end
theorem spot_none {w : World} {a : Addr} {v : Value} (h : w.cell? a = some v) : ∃ b o, a = ⟨b, o, none⟩ := by
  obtain ⟨b, o, sp⟩ := a
  cases sp with
  | none => exact ⟨b, o, rfl⟩
  | some q => simp [World.cell?] at h; split at h <;> cases h
theorem add_plain (b o j : Nat) : (⟨b, o, none⟩ : Addr).add j = ⟨b, o + j, none⟩ := by
  unfold Addr.add; split
  · rename_i h; subst h; rfl
  · rfl
theorem pti_toNat {xs : List Int} (h : ∀ x ∈ xs, 0 ≤ x ∧ x ≤ 18446744073709551615) : pti (xs.map Int.toNat) = xs := by
  unfold pti
  rw [List.map_map]
  conv => rhs; rw [← List.map_id xs]
  apply List.map_congr_left
  intro x hx
  have := h x hx
  simp only [Function.comp_apply, id]
  omega
instance : Inhabited Ch := ⟨⟨[], false, false, 0, 0⟩⟩
end Go.Proofs.Ytjokcagggmjgmaa
/-! OpenA -/
namespace Go.Proofs.Ytjokcagggmjgmaa
open Go.RowKit Go.ChangeShapes Go.WideShapes Go.Deep
set_option linter.unusedVariables false

/-- an act's numbers, whatever its point's length -/
def Ac.OkV (a : Ac) : Prop := (∀ c ∈ a.p, c < 2 ^ 64) ∧ a.v < 2 ^ 64
theorem open_acts {H : Type} {enc : TypeId × Value → H} {W : World} {base : Nat} {held : Bool} {v : Value} {x : DataW H × List MemPlace} {fuel : Nat}
    (h : DataW.trod enc Try.prog W base (fun _ => true) held fuel 22 [v] = some x) :
    ∃ l, RdA W v l ∧ (∀ c ∈ l, Ac.OkV c) ∧ l.length ≤ maxLen ∧ ∃ A n c, v = .slice A n c ∧ n ≤ c ∧ c ≤ maxLen ∧ (0 < c → ∃ b o, A = some ⟨b, o, none⟩) := by
  have hu : ∃ fs, Try.prog.underlying 48 = some (.struct fs) ∧ fs.size = 3 ∧ (fs[0]?.map (·.type) = some 4) ∧ (fs[1]?.map (·.type) = some 46) ∧ (fs[2]?.map (·.type) = some 35) ∧ oneCellFields Try.prog fs = true ∧ Try.prog.cellsOf 48 = fs.size :=
    ⟨_, Try.underlying48, by kernel_rfl, by kernel_rfl, by kernel_rfl, by kernel_rfl, by kernel_rfl, by kernel_rfl⟩
  obtain ⟨fs, he, hs, t0, t1, t2, hone, hC⟩ := hu
  rcases open_slice_fields Try.underlying22 he hone hC h with h0 | ⟨a, len, cap, m, hcs, hl, hm, hmm, hf⟩
  · simp only [List.cons.injEq, and_true] at h0
    subst h0
    exact ⟨[], ⟨none, 0, rfl, fun h => absurd h (by simp)⟩, fun c hc => by simp at hc, by simp [maxLen], none, 0, 0, rfl, Nat.le_refl _, Nat.zero_le _, fun h => absurd h (by omega)⟩
  · simp only [List.cons.injEq, and_true] at hcs
    subst hcs
    have hlm : len ≤ m := by rw [hmm]; split <;> omega
    rw [hs] at hf
    have hmc : m = cap := by rw [hmm]; rfl
    have hab : 0 < cap → ∃ b o, a = ⟨b, o, none⟩ := by
      intro h0
      obtain ⟨f0, q0, r0⟩ := Option.map_eq_some_iff.1 t0
      obtain ⟨v0, y0, n0, c0, d0⟩ := hf 0 (by omega) 0 f0 q0
      exact spot_none (by simpa [Addr.add] using c0)
    have each : ∀ i, i < len → ∃ c, (Ac.OkV c) ∧ ∃ b o, a = ⟨b, o, none⟩ ∧ AcAt W b (o + i * 3) c := by
      intro i hi
      have hfi := hf i (by omega)
      obtain ⟨f0, q0, r0⟩ := Option.map_eq_some_iff.1 t0
      obtain ⟨f1, q1, r1⟩ := Option.map_eq_some_iff.1 t1
      obtain ⟨f2, q2, r2⟩ := Option.map_eq_some_iff.1 t2
      obtain ⟨v0, y0, n0, c0, d0⟩ := hfi 0 f0 q0
      obtain ⟨v1, y1, n1, c1, d1⟩ := hfi 1 f1 q1
      obtain ⟨v2, y2, n2, c2, d2⟩ := hfi 2 f2 q2
      rw [r0] at d0; rw [r1] at d1; rw [r2] at d2
      obtain ⟨b, o, ha⟩ := hab (by omega)
      subst ha
      rw [add_plain] at c0 c1 c2
      obtain ⟨b0, e0, _⟩ := DataW.trod_bool Try.underlying4 d0
      obtain ⟨i2, e2, _, w2⟩ := DataW.trod_int Try.underlying35 d2
      simp only [List.cons.injEq, and_true] at e0 e2
      subst e0 e2
      have hp1 : ∃ xs : List Int, (∀ x ∈ xs, 0 ≤ x ∧ x ≤ 18446744073709551615) ∧ RdU W v1 xs := by
        rcases open_ints Try.underlying46 Try.underlying35 (by kernel_rfl) d1 with ⟨hcs, _⟩ | ⟨x, l, c, zs, hcs, _, hl, hm, hz, _, hcell, hwz⟩
        · simp only [List.cons.injEq, and_true] at hcs
          subst hcs
          exact ⟨[], fun x hx => by simp at hx, RdU.nil _ _ _⟩
        · simp only [List.cons.injEq, and_true] at hcs
          subst hcs
          obtain ⟨xs, _, _, h3, h4⟩ := RdU.of_row (w := W) (a := some x) (len := l) (cap := c) (zs := zs) (.inr ⟨_, rfl, hl, hm, by simpa using hz, hcell, hwz⟩)
          exact ⟨xs, h3, h4⟩
      obtain ⟨xs1, hx1, hv1⟩ := hp1
      have ho1 : ∀ y ∈ xs1.map Int.toNat, y < 2 ^ 64 := fun y hy => by
        simp only [List.mem_map] at hy
        obtain ⟨z, hz, rfl⟩ := hy
        have := hx1 z hz
        omega
      have g2 := bounds_u64 w2
      refine ⟨(⟨b0, xs1.map Int.toNat, i2.toNat⟩ : Ac), ⟨ho1, by show i2.toNat < 2 ^ 64; omega⟩, b, o, rfl, ?_⟩
      have z0 : W.cell? ⟨b, o + i * 3, none⟩ = some (.bool b0) := by simpa [Nat.add_assoc] using c0
      have z1 : W.cell? ⟨b, o + i * 3 + 1, none⟩ = some v1 := by simpa [Nat.add_assoc] using c1
      have y1' : RdU W v1 (pti (xs1.map Int.toNat)) := by rw [pti_toNat hx1]; exact hv1
      have z2 : W.cell? ⟨b, o + i * 3 + 2, none⟩ = some (.int .u64 (i2.toNat : Nat)) := by rw [show ((i2.toNat : Nat) : Int) = i2 by omega]; simpa [Nat.add_assoc] using c2
      exact ⟨v1, z0, by simpa [Nat.add_assoc] using z1, y1', by simpa [Nat.add_assoc] using z2⟩
    obtain ⟨f, hF⟩ := choose_lt each
    refine ⟨(List.range len).map f, ⟨some a, cap, by simp, fun hp => ?_⟩, ?_, by simp; omega, some a, len, cap, rfl, hl, hm, fun h => ?_⟩
    · have hp' : 0 < len := by simpa using hp
      obtain ⟨_, b, o, ha, _⟩ := hF 0 hp'
      refine ⟨b, o, by rw [ha], fun j hj => ?_⟩
      obtain ⟨_, b', o', ha', hc⟩ := hF j (by simpa using hj)
      rw [ha] at ha'
      injection ha' with e1 e2
      subst e1 e2
      simpa using hc
    · intro c hc
      simp only [List.mem_map, List.mem_range] at hc
      obtain ⟨j, hj, rfl⟩ := hc
      exact (hF j hj).1
    · obtain ⟨b, o, ha⟩ := hab h
      exact ⟨b, o, by rw [ha]⟩
end Go.Proofs.Ytjokcagggmjgmaa
/-! LawEdit -/
namespace Go.Proofs.Ytjokcagggmjgmaa
open Go.RowKit
set_option linter.unusedVariables false
set_option linter.unusedSimpArgs false

theorem RdC.one {w : World} {b cc : Nat} {c : Ch} (h : ChAt w b 0 c) : RdC w (.slice (some ⟨b, 0, none⟩) 1 cc) [c] :=
  ⟨_, cc, rfl, fun _ => ⟨b, 0, rfl, fun j hj => by
    obtain rfl : j = 0 := by simp at hj; omega
    simpa using h⟩⟩
theorem CapOk.one (b : Nat) : CapOk (.slice (some ⟨b, 0, none⟩) 1 1) := ⟨_, 1, 1, rfl, Nat.le_refl _, by simp [maxLen], fun _ => ⟨_, _, rfl⟩⟩
def xp4 : List Nat := [4, 0]
def xa : List Ch := [⟨xp4, false, true, 0, 3⟩]
def xb : List Ch := [⟨xp4, true, true, 3, 5⟩]
def xx : List Ch := [⟨xp4, false, true, 0, 5⟩]
def xc : List Ch := [⟨xp4, true, false, 5, 0⟩]
theorem xcmp : Zb.cmp xp4 xp4 = 0 := (cmp_zero _ _).2 rfl
theorem pairs_one (p q : List Nat) (h1 h2 h3 h4 : Bool) (a b c d : Nat) (h : Zb.cmp p q = 0) : pairs [⟨p, h1, h2, a, b⟩] [⟨q, h3, h4, c, d⟩] = [(some ⟨p, h1, h2, a, b⟩, some ⟨q, h3, h4, c, d⟩)] := by
  unfold pairs
  simp only [List.length_cons, List.length_nil, pairsL, h]
  rfl
theorem xthen1 : thenL xa xb = some xx := by
  unfold thenL xa xb
  rw [pairs_one _ _ _ _ _ _ _ _ _ _ xcmp]
  rfl
theorem xthen2 : thenL xx xc = some [] := by
  unfold thenL xx xc
  rw [pairs_one _ _ _ _ _ _ _ _ _ _ xcmp]
  rfl
theorem xright : rightL 2 xa = true ∧ rightL 2 xb = true ∧ rightL 2 xx = true ∧ rightL 2 xc = true := ⟨rfl, rfl, rfl, rfl⟩
theorem xok (h1 h2 : Bool) (a b : Nat) : OkC [⟨xp4, h1, h2, a, b⟩] := by
  intro c hc x hx
  simp only [List.mem_singleton] at hc
  subst hc
  simp only [xp4, List.mem_cons, List.not_mem_nil, or_false] at hx
  rcases hx with rfl | rfl <;> decide
theorem xrd {w : World} {g : Nat} (h0 : w.cell? ⟨g, 0, none⟩ = some (.int .u64 4)) (h1 : w.cell? ⟨g, 1, none⟩ = some (.int .u64 0)) : RdU w (.slice (some ⟨g, 0, none⟩) 2 2) (pti xp4) := RdU.two h0 h1

set_option maxRecDepth 8000 in
set_option maxHeartbeats 2000000 in
theorem awake_any (w : World) : Calls Try.prog 18 #[] w fun e w' => e = .returned (.bool true) ∧ Below w.heap.size w w' := by
  have H1 := Lib.hid (fun (va vb : Value) (w : World) (ha : RdC w va xa ∧ CapOk va) (hb : RdC w vb xb ∧ CapOk vb) => eThen_any 2 xa xb va vb w ha hb (by decide) (by decide) (xok _ _ _ _) (xok _ _ _ _))
  rw [xright.1, xright.2.1, xthen1] at H1
  have H2 := Lib.hid (fun (va vb : Value) (w : World) (ha : RdC w va xx ∧ CapOk va) (hb : RdC w vb xc ∧ CapOk vb) => eThen_any 2 xx xc va vb w ha hb (by decide) (by decide) (xok _ _ _ _) (xok _ _ _ _))
  rw [xright.2.2.1, xright.2.2.2, xthen2] at H2
  have H3 := Lib.hid (fun (va vb : Value) (w : World) (ha : RdC w va xx) (hb : RdC w vb xx) => rSameC_any xx xx va vb w ha hb (by decide) (by intro c hc; simp only [xx, List.mem_singleton] at hc; subst hc; decide))
  rw [eqL_true rfl] at H3
  go_enter Try.func18, Try.ntmps18
  go_wp2_with fail
  refine (H1.out _ _ _ ⟨RdC.one ?_, CapOk.one _⟩ ⟨RdC.one ?_, CapOk.one _⟩).mono ?_
  · refine ⟨.slice (some ⟨w.heap.size, 0, none⟩) 2 2, ?_, xrd ?_ ?_, ?_, ?_, ?_, ?_⟩ <;> simp [go_sem]
  · refine ⟨.slice (some ⟨w.heap.size, 0, none⟩) 2 2, ?_, xrd ?_ ?_, ?_, ?_, ?_, ?_⟩ <;> simp [go_sem]
  rintro e w1 ⟨⟨A, c, rfl, hr1, hc1⟩, hb1⟩
  have HR1 := Lib.hid (And.intro hr1 hc1)
  have HB1 := Lib.hid (show Below w.heap.size w w1 from (show Below w.heap.size w _ from below_alloc' (below_alloc' (below_alloc' (Below.refl _ _) _) _) _).trans (hb1.mono (by simp; omega)))
  have k0 : w1.cell? ⟨w.heap.size, 0, none⟩ = some (.int .u64 4) := Below.keeps hb1 _ _ (by simp [go_sem])
  have k1 : w1.cell? ⟨w.heap.size, 1, none⟩ = some (.int .u64 0) := Below.keeps hb1 _ _ (by simp [go_sem])
  have hl1 : w.heap.size < w1.heap.size := World.block_lt_of_cell? w1 _ k0
  have hl1' : w.heap.size < w1.heap.size + 1 := by omega
  clear hb1 hr1 hc1
  go_wp2_with fail
  refine (H2.out _ _ _ ⟨HR1.out.1.below (by repeat (first | exact Below.refl _ _ | assumption | (refine Below.drew ?_) | (refine below_drewN' ?_ _) | (refine below_alloc' ?_ _))), HR1.out.2⟩ ⟨RdC.one ?_, CapOk.one _⟩).mono ?_
  · refine ⟨.slice (some ⟨w.heap.size, 0, none⟩) 2 2, ?_, xrd ?_ ?_, ?_, ?_, ?_, ?_⟩ <;> first | (simp [go_sem, k0, k1, hl1]; done) | exact Below.keeps (w := w1) (by repeat (first | exact Below.refl _ _ | assumption | (refine Below.drew ?_) | (refine below_drewN' ?_ _) | (refine below_alloc' ?_ _))) _ _ k0 | exact Below.keeps (w := w1) (by repeat (first | exact Below.refl _ _ | assumption | (refine Below.drew ?_) | (refine below_drewN' ?_ _) | (refine below_alloc' ?_ _))) _ _ k1
  rintro e w2 ⟨⟨A2, c2, rfl, hr2, hc2⟩, hb2⟩
  have HX2 := Lib.hid ((show Below w1.heap.size w1 _ from below_alloc' (Below.refl _ _) _).trans (hb2.mono (by simp)))
  have HR2 := Lib.hid (HR1.out.1.below HX2.out)
  have HB2 := Lib.hid (HB1.out.trans (HX2.out.mono HB1.out.size))
  replace k0 := Below.keeps HX2.out _ _ k0
  replace k1 := Below.keeps HX2.out _ _ k1
  have hl2 : w.heap.size < w2.heap.size := World.block_lt_of_cell? w2 _ k0
  have hl2' : w.heap.size < w2.heap.size + 1 := by omega
  clear hb2 hr2 hc2
  go_wp2_with fail
  refine (H3.out _ _ _ (HR2.out.below (by repeat (first | exact Below.refl _ _ | assumption | (refine Below.drew ?_) | (refine below_drewN' ?_ _) | (refine below_alloc' ?_ _)))) (RdC.one ?_)).mono ?_
  · refine ⟨.slice (some ⟨w.heap.size, 0, none⟩) 2 2, ?_, xrd ?_ ?_, ?_, ?_, ?_, ?_⟩ <;> first | (simp [go_sem, k0, k1, hl2]; done) | exact Below.keeps (w := w2) (by repeat (first | exact Below.refl _ _ | assumption | (refine Below.drew ?_) | (refine below_drewN' ?_ _) | (refine below_alloc' ?_ _))) _ _ k0 | exact Below.keeps (w := w2) (by repeat (first | exact Below.refl _ _ | assumption | (refine Below.drew ?_) | (refine below_drewN' ?_ _) | (refine below_alloc' ?_ _))) _ _ k1
  rintro e w3 ⟨rfl, n, rfl⟩
  have hb2 := HB2.out
  go_wp2_with fail
  go_ret
  exact ⟨rfl, (by repeat (first | exact Below.refl _ _ | assumption | (refine Below.drew ?_) | (refine below_drewN' ?_ _) | (refine below_alloc' ?_ _)))⟩
end Go.Proofs.Ytjokcagggmjgmaa
/-! LawChains -/
namespace Go.Proofs.Ytjokcagggmjgmaa
open Go.RowKit
set_option linter.unusedVariables false
set_option linter.unusedSimpArgs false
set_option maxRecDepth 100000

theorem heavyA_ok8 {l : List Ac} {most : Nat} (h : heavyL l most = false) : l.length ≤ most ∧ ∀ a ∈ l, a.p.length ≤ 40 := by
  unfold heavyL at h
  rw [Bool.or_eq_false_iff] at h
  refine ⟨by have := of_decide_eq_false h.1; omega, fun a ha => ?_⟩
  have := List.any_eq_false.1 h.2 a ha
  simp at this
  omega
set_option maxHeartbeats 8000000 in
theorem editChains_any (w : World) (k : Int) (l m o : List Ac) (vl vm vo : Value) (hl : RdA w vl l) (hm : RdA w vm m) (ho : RdA w vo o) (hlo : ∀ a ∈ l, a.OkV) (hmo : ∀ a ∈ m, a.OkV) (hoo : ∀ a ∈ o, a.OkV) (hll : l.length ≤ maxLen) (hml : m.length ≤ maxLen) (hol : o.length ≤ maxLen) :
    Calls Try.prog 5 #[.int .i64 k, vl, vm, vo] w fun e w' => e = .returned (.bool true) ∧ Below w.heap.size w w' := by
  have HAW := Lib.hid (fun w' => awake_any w')
  have HH1 := Lib.hid (fun w' (hb : Below w.heap.size w w') => heavyA_any w' l vl 20 (hl.below hb) hll)
  have HH2 := Lib.hid (fun w' (hb : Below w.heap.size w w') => heavyA_any w' m vm 20 (hm.below hb) hml)
  have HH3 := Lib.hid (fun w' (hb : Below w.heap.size w w') => heavyA_any w' o vo 20 (ho.below hb) hol)
  have HV := Lib.hid (And.intro hl (And.intro hm (And.intro ho (And.intro hlo (And.intro hmo hoo)))))
  obtain ⟨A1, q1, rfl, z1⟩ := hl
  obtain ⟨A2, q2, rfl, z2⟩ := hm
  obtain ⟨A3, q3, rfl, z3⟩ := ho
  clear z1 z2 z3 hlo hmo hoo hll hml hol
  obtain ⟨h1, hh1⟩ : ∃ b, heavyL l 20 = b := ⟨_, rfl⟩
  obtain ⟨h2, hh2⟩ : ∃ b, heavyL m 20 = b := ⟨_, rfl⟩
  obtain ⟨h3, hh3⟩ : ∃ b, heavyL o 20 = b := ⟨_, rfl⟩
  rw [hh1] at HH1
  rw [hh2] at HH2
  rw [hh3] at HH3
  have HHH := Lib.hid (And.intro hh1 (And.intro hh2 hh3))
  clear hh1 hh2 hh3
  cases h1 with
  | true =>
    go_enter Try.func5, Try.ntmps5
    go_wp2_with fail
    refine (HAW.out _).mono ?_
    rintro e w1 ⟨rfl, hb1⟩
    have HB := Lib.hid hb1
    clear hb1
    go_wp2_with fail
    refine (HH1.out _ HB.out).mono ?_
    rintro e w2 ⟨rfl, hw⟩
    obtain rfl := hw.symm
    clear hw
    go_wp2_with fail
    go_ret
    exact ⟨rfl, HB.out⟩
  | false =>
  cases h2 with
  | true =>
    go_enter Try.func5, Try.ntmps5
    go_wp2_with fail
    refine (HAW.out _).mono ?_
    rintro e w1 ⟨rfl, hb1⟩
    have HB := Lib.hid hb1
    clear hb1
    go_wp2_with fail
    refine (HH1.out _ HB.out).mono ?_
    rintro e w2 ⟨rfl, hw⟩
    obtain rfl := hw.symm
    clear hw
    go_wp2_with fail
    refine (HH2.out _ HB.out).mono ?_
    rintro e w2 ⟨rfl, hw⟩
    obtain rfl := hw.symm
    clear hw
    go_wp2_with fail
    go_ret
    exact ⟨rfl, HB.out⟩
  | false =>
  cases h3 with
  | true =>
    go_enter Try.func5, Try.ntmps5
    go_wp2_with fail
    refine (HAW.out _).mono ?_
    rintro e w1 ⟨rfl, hb1⟩
    have HB := Lib.hid hb1
    clear hb1
    go_wp2_with fail
    refine (HH1.out _ HB.out).mono ?_
    rintro e w2 ⟨rfl, hw⟩
    obtain rfl := hw.symm
    clear hw
    go_wp2_with fail
    refine (HH2.out _ HB.out).mono ?_
    rintro e w2 ⟨rfl, hw⟩
    obtain rfl := hw.symm
    clear hw
    go_wp2_with fail
    refine (HH3.out _ HB.out).mono ?_
    rintro e w2 ⟨rfl, hw⟩
    obtain rfl := hw.symm
    clear hw
    go_wp2_with fail
    go_ret
    exact ⟨rfl, HB.out⟩
  | false =>
    by_cases g1 : k < 1
    · go_enter Try.func5, Try.ntmps5
      go_wp2_with fail
      refine (HAW.out _).mono ?_
      rintro e w1 ⟨rfl, hb1⟩
      have HB := Lib.hid hb1
      clear hb1
      go_wp2_with fail
      refine (HH1.out _ HB.out).mono ?_
      rintro e w2 ⟨rfl, hw⟩
      obtain rfl := hw.symm
      clear hw
      go_wp2_with fail
      refine (HH2.out _ HB.out).mono ?_
      rintro e w2 ⟨rfl, hw⟩
      obtain rfl := hw.symm
      clear hw
      go_wp2_with fail
      refine (HH3.out _ HB.out).mono ?_
      rintro e w2 ⟨rfl, hw⟩
      obtain rfl := hw.symm
      clear hw
      go_wp2_with fail
      go_ret
      exact ⟨rfl, HB.out⟩
    · by_cases g2 : k > 16
      · go_enter Try.func5, Try.ntmps5
        go_wp2_with fail
        refine (HAW.out _).mono ?_
        rintro e w1 ⟨rfl, hb1⟩
        have HB := Lib.hid hb1
        clear hb1
        go_wp2_with fail
        refine (HH1.out _ HB.out).mono ?_
        rintro e w2 ⟨rfl, hw⟩
        obtain rfl := hw.symm
        clear hw
        go_wp2_with fail
        refine (HH2.out _ HB.out).mono ?_
        rintro e w2 ⟨rfl, hw⟩
        obtain rfl := hw.symm
        clear hw
        go_wp2_with fail
        refine (HH3.out _ HB.out).mono ?_
        rintro e w2 ⟨rfl, hw⟩
        obtain rfl := hw.symm
        clear hw
        go_wp2_with fail
        go_ret
        exact ⟨rfl, HB.out⟩
      · obtain ⟨n, rfl⟩ : ∃ n : Nat, k = n := ⟨k.toNat, by omega⟩
        have o1 := heavyA_ok8 HHH.out.1
        have o2 := heavyA_ok8 HHH.out.2.1
        have o3 := heavyA_ok8 HHH.out.2.2
        have n1 : 1 ≤ n := by omega
        have n16 : n ≤ 16 := by omega
        have l20 : l.length ≤ 20 := o1.1
        have m20 : m.length ≤ 20 := o2.1
        have o20 : o.length ≤ 20 := o3.1
        have ok1 : ∀ a ∈ l, a.Ok := fun a ha => ⟨o1.2 a ha, (HV.out.2.2.2.1 a ha).1, (HV.out.2.2.2.1 a ha).2⟩
        have ok2 : ∀ a ∈ m, a.Ok := fun a ha => ⟨o2.2 a ha, (HV.out.2.2.2.2.1 a ha).1, (HV.out.2.2.2.2.1 a ha).2⟩
        have ok3 : ∀ a ∈ o, a.Ok := fun a ha => ⟨o3.2 a ha, (HV.out.2.2.2.2.2 a ha).1, (HV.out.2.2.2.2.2 a ha).2⟩
        have HTW := Lib.hid (fun W (hb : Below w.heap.size w W) => two_any W n l m _ _ n1 n16 (HV.out.1.below hb) (HV.out.2.1.below hb) ok1 ok2 (by omega))
        have hin : EtS n (playL n [] l) := EtS.play ⟨Et.nil n, by omega, by simp⟩ _ ok1 (by simp; omega)
        have hinl : (playL n [] l).length ≤ 20 := by have := play_len n [] l; simp at this; omega
        have hon : EtS n (playL n (playL n [] l) m) := EtS.play hin _ ok2 (by omega)
        have honl : (playL n (playL n [] l) m).length ≤ 40 := by have := play_len n (playL n [] l) m; omega
        generalize playL n (playL n [] l) m = on at *
        generalize playL n [] l = in_ at *
        have hot : EtS n (playL n on o) := EtS.play hon _ ok3 (by omega)
        have hotl : (playL n on o).length ≤ 60 := by have := play_len n on o; omega
        have HOO := Lib.hid (And.intro ok3 (And.intro o20 (And.intro hon honl)))
        obtain ⟨ot, hoe⟩ : ∃ x, playL n on o = x := ⟨_, rfl⟩
        rw [hoe] at hot hotl
        have HOE := Lib.hid hoe
        have hx1 : (changesL in_ on).length ≤ 60 := by have := changes_len hin.et hon.et; omega
        have hx2 : (changesL on ot).length ≤ 100 := by have := changes_len hon.et hot.et; omega
        have rt1 := chg_rt hin.et hon.et
        have rt2 := chg_rt hon.et hot.et
        have rt3 := chg_rt hin.et hot.et
        have hx3 : (changesL in_ ot).length ≤ 80 := by have := changes_len hin.et hot.et; omega
        have e1 := rt_rightL n1 n16 rt1
        have e2 := rt_rightL n1 n16 rt2
        have HTH := Lib.hid (fun W va vb (ha : RdC W va (changesL in_ on) ∧ CapOk va) (hb : RdC W vb (changesL on ot) ∧ CapOk vb) => eThen_any n _ _ va vb W ha hb (by omega) (by omega) rt1.ok rt2.ok)
        rw [e1, e2, chg_then hin.et hon.et hot.et] at HTH
        have HSM := Lib.hid (fun W va vb (ha : RdC W va (changesL in_ ot)) (hb : RdC W vb (changesL in_ ot)) => rSameC_any _ _ va vb W ha hb (by omega) (fun c hc => by rw [rt3.len c hc]; omega))
        have HCA := Lib.hid (fun W t u (h1 : TrR W t n in_) (h2 : TrR W u n on) => changes_any W t u n in_ on h1 h2 (by omega))
        have HCB := Lib.hid (fun W t u (h1 : TrR W t n on) (h2 : TrR W u n ot) => changes_any W t u n on ot h1 h2 (by omega))
        have HCC := Lib.hid (fun W t u (h1 : TrR W t n in_) (h2 : TrR W u n ot) => changes_any W t u n in_ ot h1 h2 (by omega))
        generalize changesL in_ on = c1 at *
        generalize changesL on ot = c2 at *
        generalize changesL in_ ot = c3 at *
        rw [eqL_true rfl] at HSM
        clear o1 o2 o3 n1 n16 l20 m20 o20 ok1 ok2 ok3 hin hinl hon honl hot hotl hoe hx1 hx2 hx3 rt1 rt2 rt3 e1 e2
        go_enter Try.func5, Try.ntmps5
        go_wp2_with fail
        refine (HAW.out _).mono ?_
        rintro e w1 ⟨rfl, hb1⟩
        have HB := Lib.hid hb1
        clear hb1
        go_wp2_with fail
        refine (HH1.out _ HB.out).mono ?_
        rintro e w2 ⟨rfl, hw⟩
        obtain rfl := hw.symm
        clear hw
        go_wp2_with fail
        refine (HH2.out _ HB.out).mono ?_
        rintro e w2 ⟨rfl, hw⟩
        obtain rfl := hw.symm
        clear hw
        go_wp2_with fail
        refine (HH3.out _ HB.out).mono ?_
        rintro e w2 ⟨rfl, hw⟩
        obtain rfl := hw.symm
        clear hw
        go_wp2_with fail
        refine (HTW.out _ HB.out).mono ?_
        rintro e w2 ⟨t, u, va, vb, rfl, ht, hu, hva, hvb, hb2⟩
        have HT := Lib.hid (And.intro ht (And.intro hu hvb))
        have HB2 := Lib.hid (HB.out.trans (hb2.mono HB.out.size))
        have HX := Lib.hid (HV.out.2.2.1.below HB2.out)
        obtain ⟨A4, q4, rfl, _⟩ := hva
        obtain ⟨A5, q5, rfl, _⟩ := hvb
        clear ht hu hb2
        go_wp2_with fail
        go_loopw [12, 13, 14, 15] (fun vin _ tv iv wr => ∃ (t' j : Nat), j ≤ o.length ∧ tv = .pointer (some ⟨t', 0, none⟩) ∧ iv = .int .i64 (j : Nat) ∧ TrR wr t' n (playL n on (o.take j)) ∧ RdE wr vin (playL n on (o.take j)) ∧ Below w2.heap.size w2 wr) (fun _ _ _ iv _ => o.length - (intOf iv).toNat)
        case atStart => exact ⟨u, 0, Nat.zero_le _, rfl, rfl, HT.out.2.1.bel (by repeat (first | exact Below.refl _ _ | (refine Below.drew ?_) | (refine below_drewN' ?_ _) | (refine below_alloc' ?_ _) | (refine Below.setCell ?_ (by first | exact Nat.le_refl _ | (simp; done) | (simp; omega)) _))), HT.out.2.2.below (by repeat (first | exact Below.refl _ _ | (refine Below.drew ?_) | (refine below_drewN' ?_ _) | (refine below_alloc' ?_ _) | (refine Below.setCell ?_ (by first | exact Nat.le_refl _ | (simp; done) | (simp; omega)) _))), (by repeat (first | exact Below.refl _ _ | (refine Below.drew ?_) | (refine below_drewN' ?_ _) | (refine below_alloc' ?_ _) | (refine Below.setCell ?_ (by first | exact Nat.le_refl _ | (simp; done) | (simp; omega)) _)))⟩
        case round =>
          obtain ⟨t', j, hj, rfl, rfl, ht, hin, hb⟩ := hrel
          by_cases hlt : j < o.length
          · have h3 : (j : Int) < (o.length : Int) := by omega
            have h5 : (0 : Int) ≤ (j : Int) := by omega
            have HW := Lib.hid (show wrap64 ((j : Int) + 1) = ((j + 1 : Nat) : Int) by have := HOO.out.2.1; unfold wrap64; omega)
            obtain ⟨A', c', e', hx⟩ := HX.out
            simp only [Value.slice.injEq] at e'
            obtain ⟨rfl, _, rfl⟩ := e'
            obtain ⟨b2, o2, rfl, hc⟩ := hx (by omega)
            obtain ⟨x, k0, k1, ku, k2⟩ := (hc j hlt).keep (Below.keeps hb)
            have hoj := HOO.out.1 o[j] (List.getElem_mem hlt)
            have hpl := play_take n on o j hlt
            have HES : EtS n (playL n on (o.take j)) := EtS.play HOO.out.2.2.1 _ (fun a ha => HOO.out.1 a (List.mem_of_mem_take ha)) (by rw [List.length_take]; have := HOO.out.2; omega)
            have HDN := Lib.hid (done_any wr t' n o[j] _ _ _ ht hin HES ku hoj)
            rw [← hpl] at HDN
            have HBJ := Lib.hid hb
            have hlb := World.block_lt_of_cell? wr _ k0
            obtain ⟨Au, cu, rfl, _⟩ := RdU.point ku
            obtain ⟨AI, cI, rfl, _⟩ := hin
            generalize o[j] = ac at *
            generalize playL n on (o.take j) = l1 at *
            clear hc hoj HES hpl hb ht ku hx
            go_wp2_with fail
            refine HDN.out.mono ?_
            rintro e w3 ⟨t2, vin2, rfl, ht2, hin2, hb2⟩
            have HN := Lib.hid (And.intro ht2 (And.intro hin2 (HBJ.out.trans (hb2.mono HBJ.out.size))))
            clear ht2 hin2 hb2
            go_wp2_with fail
            go_roundw
            case rel => exact ⟨t2, j + 1, by omega, rfl, (by first | rw [HW.out] | rfl | simp), HN.out.1, HN.out.2.1, HN.out.2.2⟩
            case measure => (first | (rw [intOf_of' HW.out, intOf_of' rfl]; omega) | (simp [intOf]; omega) | (simp [intOf] <;> omega))
          · have h3 : ¬ (j : Int) < (o.length : Int) := by omega
            have e : o.take j = o := List.take_of_length_le (by omega)
            rw [e, HOE.out] at ht hin
            have HR := Lib.hid (And.intro (HT.out.1.bel hb) (And.intro (HT.out.2.1.bel hb) ht))
            have HB3 := Lib.hid (HB2.out.trans (hb.mono HB2.out.size))
            obtain ⟨AI, cI, rfl, _⟩ := hin
            have HC0 := Lib.hid (Below.refl wr.heap.size wr)
            have HX1 := Lib.hid (HCA.out wr t u HR.out.1 HR.out.2.1)
            clear ht hb e
            go_wp2_with fail
            refine (HX1.out).mono ?_
            rintro e w4 ⟨v4, rfl, hw4, hb4⟩
            have HC4 := Lib.hid (HC0.out.trans (hb4.mono HC0.out.size))
            have HV4 := Lib.hid (hw4.rd (fun u p hu => hu.rd))
            have HX2 := Lib.hid (HCB.out w4 u t' (HR.out.2.1.bel HC4.out) (HR.out.2.2.bel HC4.out))
            clear hw4 hb4
            go_wp2_with fail
            refine (HX2.out).mono ?_
            rintro e w5 ⟨v5, rfl, hw5, hb5⟩
            have HC5 := Lib.hid (HC4.out.trans (hb5.mono HC4.out.size))
            have HV5 := Lib.hid (And.intro (And.intro (HV4.out.1.below hb5) HV4.out.2) (hw5.rd (fun u p hu => hu.rd)))
            have HX3 := Lib.hid (HCC.out w5 t t' (HR.out.1.bel HC5.out) (HR.out.2.2.bel HC5.out))
            clear hw5 hb5
            go_wp2_with fail
            refine (HX3.out).mono ?_
            rintro e w6 ⟨v6, rfl, hw6, hb6⟩
            have HC6 := Lib.hid (HC5.out.trans (hb6.mono HC5.out.size))
            have HV6 := Lib.hid (hw6.rd (fun u p hu => hu.rd)).1
            have HX4 := Lib.hid (HTH.out w6 v4 v5 ⟨HV5.out.1.1.below hb6, HV5.out.1.2⟩ ⟨HV5.out.2.1.below hb6, HV5.out.2.2⟩)
            clear hw6 hb6
            go_wp2_with fail
            refine (HX4.out).mono ?_
            rintro e w7 ⟨⟨A7, q7, rfl, hr7, _⟩, hb7⟩
            have HC7 := Lib.hid (HC6.out.trans (hb7.mono HC6.out.size))
            have HX5 := Lib.hid (HSM.out w7 _ v6 hr7 (HV6.out.below hb7))
            clear hr7 hb7
            go_wp2_with fail
            refine (HX5.out).mono ?_
            rintro e w8 ⟨rfl, n8, rfl⟩
            have HC8 := Lib.hid (HB3.out.trans (HC7.out.mono HB3.out.size))
            go_wp2_with fail
            go_ret
            exact ⟨rfl, below_trans HC8.out (drewN_below _ _)⟩
end Go.Proofs.Ytjokcagggmjgmaa
