/-
  Texts that the proof of EditDiffs leans on, part 6: contracts of functions, and plain laws.
-/
import Derived.Test.YtjokcagggmjgmaaGreatMEditDiffs5
import Derived.ScopeJumps
import Derived.WalkMore
/-! TrS -/
namespace Go.Proofs.YtjokcagggmjgmaaGreat
open Go.RowKit
set_option linter.unusedVariables false
set_option linter.unusedSimpArgs false
set_option maxRecDepth 100000

def slLen (v : Value) : Nat := match v with | .slice _ n _ => n | _ => 0
theorem OwnV.last {t : TypeId} {W w : World} {v x : Value} {l : List Value} (h : OwnV t W w v (l ++ [x])) :
    ∃ g c, v = .slice (some ⟨g, 0, none⟩) (l.length + 1) c ∧ w.cell? ⟨g, l.length, none⟩ = some x ∧ OwnV t W w (.slice (some ⟨g, 0, none⟩) l.length c) l ∧ l.length + 1 ≤ c := by
  obtain ⟨g, c, rfl, hg, hc⟩ := h.cells (by simp)
  have hc' := hc l.length (by simp)
  obtain ⟨h1, h2⟩ := h
  rw [List.length_append, List.length_singleton] at h2 ⊢
  rcases h2 with ⟨h2, _⟩ | ⟨g', cap, cur, q1, q2, q3, q4, q5, q6, q7⟩
  · cases h2
  · injection q1 with q1 _ q1'
    injection q1 with q1
    injection q1 with q1
    subst q1 q1'
    refine ⟨g, c, rfl, by rw [hc']; simp, ⟨by simp, .inr ⟨g, c, cur, rfl, q2, q3, by omega, q5, q6, ?_⟩⟩, q4⟩
    have := congrArg (List.take l.length) q7
    rw [List.take_take, List.take_left] at this
    rw [Nat.mul_one] at this ⊢
    rw [Nat.min_eq_left (by omega)] at this
    exact this
theorem Nd.tn {w : World} {k b : Nat} {l : List En} (h : Nd w k b l) : Tn k l := by
  induction h with
  | leaf _ p v h hp ho hv => exact .one _ hp
  | node _ s n pre ks h hs hkd hn ih =>
    refine .node n pre _ hkd fun x hx => ?_
    obtain ⟨y, hy, rfl⟩ := List.mem_map.1 hx
    exact ih y hy
/-- the kids of a node, as tree.Shapes goes through them -/
theorem Nd.kidsOf {w : World} {k b : Nat} {l : List En} (h : Nd w k b l) (hs : l.length ≤ 1000) :
    ∃ ks : List (Nat × Nat × List En), (shL l).pl = ks.map (·.1) ∧ shapesL l = shL l :: ks.flatMap (fun x => shapesL x.2.2) ∧ (∀ x ∈ ks, Nd w k x.2.1 x.2.2) ∧ ks.length ≤ 1000 ∧ (∀ x ∈ ks, x.2.2.length ≤ 1000) ∧
      ∀ j (hj : j < ks.length) w', Below w.heap.size w w' → Calls Tryz.prog 75 #[.pointer (some ⟨b, 0, none⟩), .int .i64 (ks[j].1 : Nat)] w' fun e w'' => e = .returned (pv (some ks[j].2.1)) ∧ Below w'.heap.size w' w'' := by
  cases h with
  | leaf _ p v h hp ho hv => exact ⟨[], rfl, by rw [shapes_one]; rfl, by simp, by simp, by simp, fun j hj => by simp at hj⟩
  | node _ s n pre ks h hs' hkd hn =>
    have hcl := cat_length (ks.map kl) hkd.ne
    refine ⟨ks, ?_, ?_, hn, ?_, ?_, ?_⟩
    · rw [hkd.sh]; simp only [List.map_map]; rfl
    · rw [Tn.shapes hkd (fun x hx => ?_), List.flatMap_map]
      · rfl
      · obtain ⟨y, hy, rfl⟩ := List.mem_map.1 hx
        exact (hn y hy).tn
    · rw [List.length_map] at hcl; omega
    · intro x hx
      have := hkd.kid_lt (List.mem_map_of_mem hx)
      have e : (kl x).2 = x.2.2 := rfl
      rw [e] at this
      omega
    · intro j hj w' hb
      have h1 := nkid_any w' b s k (ks.map kb) (ks[j].1 : Nat) (Below.keeps hb _ _ h.c3) (hs'.below hb)
      have e : lookI (ks.map kb) (ks[j].1 : Nat) = some ks[j].2.1 := by
        unfold lookI
        rw [if_neg (by omega), Int.toNat_natCast]
        have := Od.look_mem (key := ka) hs'.rw'.asc (x := kb ks[j]) (List.mem_map_of_mem (List.getElem_mem hj))
        rw [show ka (kb ks[j]) = ks[j].1 from rfl] at this
        rw [this]; rfl
      rw [e] at h1
      exact h1
def stV (st : List (Option Nat × List En)) : List Value := st.map fun x => pv x.1
theorem stV_append (a b : List (Option Nat × List En)) : stV (a ++ b) = stV a ++ stV b := List.map_append ..
def flatS (st : List (Option Nat × List En)) : List Sh := st.reverse.flatMap fun x => shapesL x.2
theorem flatS_snoc (st : List (Option Nat × List En)) (x : Option Nat × List En) : flatS (st ++ [x]) = shapesL x.2 ++ flatS st := by unfold flatS; simp
theorem RtN.shapes_pos {w : World} {k b : Nat} {l : List En} (h : Nd w k b l) (hs : l.length ≤ 1000) : 1 ≤ (shapesL l).length := by
  obtain ⟨ks, _, h2, _⟩ := h.kidsOf hs
  rw [h2]; simp
theorem flatS_len {w : World} {k : Nat} {st : List (Option Nat × List En)} (h : ∀ x ∈ st, RtN w k x.1 x.2 ∧ x.2.length ≤ 1000) (hn : ∀ x ∈ st, x.1 ≠ none) : st.length ≤ (flatS st).length := by
  have key : ∀ l : List (Option Nat × List En), (∀ x ∈ l, RtN w k x.1 x.2 ∧ x.2.length ≤ 1000) → (∀ x ∈ l, x.1 ≠ none) → l.length ≤ (l.flatMap fun x => shapesL x.2).length := by
    intro l
    induction l with
    | nil => intros; simp
    | cons x l ih =>
      intro h hn
      have h1 := ih (fun y hy => h y (by simp [hy])) (fun y hy => hn y (by simp [hy]))
      have h2 : 1 ≤ (shapesL x.2).length := by
        obtain ⟨r, lx⟩ := x
        have h3 := h (r, lx) (by simp)
        cases r with
        | none => exact absurd rfl (hn (none, lx) (by simp))
        | some b => exact RtN.shapes_pos h3.1 h3.2
      simp only [List.flatMap_cons, List.length_append, List.length_cons]
      omega
  have := key st.reverse (fun x hx => h x (by simpa using hx)) (fun x hx => hn x (by simpa using hx))
  rw [List.length_reverse] at this
  exact this
def kst (ks : List (Nat × Nat × List En)) : List (Option Nat × List En) := ks.reverse.map fun x => (some x.2.1, x.2.2)
theorem flatS_kst (st : List (Option Nat × List En)) (ks : List (Nat × Nat × List En)) : flatS (st ++ kst ks) = (ks.flatMap fun x => shapesL x.2.2) ++ flatS st := by
  unfold flatS kst
  rw [List.reverse_append, List.flatMap_append, ← List.map_reverse, List.reverse_reverse, List.flatMap_map]
theorem kst_drop (ks : List (Nat × Nat × List En)) (m : Nat) (h : m < ks.length) : kst (ks.drop m) = kst (ks.drop (m + 1)) ++ [(some ks[m].2.1, ks[m].2.2)] := by
  unfold kst
  rw [← List.getElem_cons_drop h, List.reverse_cons, List.map_append]
  rfl
/-- a row of another type has grown -/
theorem PtK.grownV {T : TypeId} {W0 W w w' : World} {v : Value} {l : List Value} (h1 : T ≠ 49) (h2 : T ≠ 3) (ho : OwnV T W w v l) (hg : w.grownBy w' v.ownBlock) : ∀ u p s, PtK W0 W w u p s → PtK W0 W w' u p s := by
  have key : ∀ {b : Nat} {cur : Array Value} {t : TypeId} {fr : Nat × Nat}, t ≠ T → w.heap[b]? = some (.cells cur t fr) → w'.heap[b]? = w.heap[b]? := fun ht hb =>
    hg.block _ (kr_lt hb) fun e => by
      obtain ⟨_, c2, h2⟩ := ho.block _ e.symm
      rw [hb] at h2
      injection h2 with h2
      injection h2 with _ h2 _
      exact ht h2
  exact fun u p s h => ⟨h.1.imp id (·.keepBlock fun b cur fr hb => key (fun e => h1 e.symm) hb), h.2.keepBlock fun b cur hb => key (fun e => h2 e.symm) hb⟩
theorem OwnS.grownV {T : TypeId} {Pt : PtS'} {W w w' : World} {u v : Value} {m : List Sh} {l : List Value} (hT : T ≠ 115) (h : OwnS Pt W w u m) (ho : OwnV T W w v l) (hg : w.grownBy w' v.ownBlock) : OwnS Pt W w' u m := by
  have hblk := h.block
  obtain ⟨cs, h1, h2⟩ := h
  refine ⟨cs, h1.kept hg ?_, h2⟩
  cases hu : u.ownBlock with
  | none => exact .inl rfl
  | some k =>
    refine .inr fun e => ?_
    obtain ⟨_, c1, g1⟩ := hblk k hu
    obtain ⟨_, c2, g2⟩ := ho.block k e.symm
    rw [g1] at g2
    injection g2 with g2
    injection g2 with _ g2 _
    exact hT g2.symm
theorem blkOther {T t : TypeId} {W w w' : World} {v : Value} {l : List Value} {b : Nat} {cur : Array Value} {fr : Nat × Nat} (hT : t ≠ T) (hb : w.heap[b]? = some (.cells cur t fr)) (ho : OwnV T W w v l) (hg : w.grownBy w' v.ownBlock) : w'.heap[b]? = some (.cells cur t fr) :=
  (hg.block _ (kr_lt hb) fun e => by
    obtain ⟨_, c2, h2⟩ := ho.block _ e.symm
    rw [hb] at h2
    injection h2 with h2
    injection h2 with _ h2 _
    exact hT h2).trans hb
set_option maxHeartbeats 8000000 in
theorem tshapes_any (w : World) (t k : Nat) (l : List En) (ht : TrR w t k l) (hs : l.length ≤ 1000) : Calls Tryz.prog 36 #[.pointer (some ⟨t, 0, none⟩)] w fun e w' => ShsP w w (shapesL l) e w' := by
  obtain ⟨r, c1, hr⟩ := ht.c1
  obtain ⟨q, hq⟩ := pv_ex r
  have hlt := World.block_lt_of_cell? w _ c1
  have hT : (shapesL l).length ≤ 2000 := by
    cases r with
    | none => obtain rfl : l = [] := hr; decide
    | some b => have := (Nd.tn hr).len; omega
  have HD := Lib.hid (And.intro ht.k1 (And.intro ht.k16 (And.intro hs hT)))
  have HR := Lib.hid (And.intro hr hq)
  rw [hq] at c1
  clear ht hr hT hs
  go_enter Tryz.func36, Tryz.ntmps36
  go_wp2_with fail
  refine (troot_any w t q c1).mono ?_
  rintro e w1 ⟨rfl, hw⟩
  obtain rfl := hw.symm
  clear hw
  go_wp2_with fail
  go_loopw [3, 4, 5, 6, 7] (fun ov sv _ _ _ wr => ∃ (st : List (Option Nat × List En)) (outL : List Sh), outL ++ flatS st = shapesL l ∧ (∀ x ∈ st, RtN w k x.1 x.2 ∧ x.2.length ≤ 1000) ∧ ((∀ x ∈ st, x.1 ≠ none) ∨ st.length ≤ 1) ∧ OwnS (PtK w w wr) w wr ov outL ∧ OwnV 103 w wr sv (stV st) ∧ Below w.heap.size w wr)
    (fun ov sv _ _ _ _ => ((shapesL l).length - slLen ov) * ((shapesL l).length + 2) + slLen sv)
  case atStart =>
    refine ⟨[(r, l)], [], by unfold flatS; simp, ?_, .inr (by simp), OwnS.nil _ _ _, ?_, (by repeat (first | exact Below.refl _ _ | (refine Below.drew ?_) | (refine below_drewN' ?_ _) | (refine below_alloc' ?_ _) | (refine Below.setCell ?_ (by first | exact Nat.le_refl _ | (simp; done) | (simp; omega)) _)))⟩
    · intro x hx
      obtain rfl : x = (r, l) := by simpa using hx
      exact ⟨HR.out.1, HD.out.2.2.1⟩
    · unfold stV OwnV
      simp only [List.map_cons, List.map_nil, List.length_singleton, hq]
      exact World.ownsRow_lit w #[.pointer q] 1 (Nat.le_refl _) (by simp [maxLen]) (by simp)
  case round =>
    obtain ⟨st, outL, hfl, hst, hsome, hown, hsv, hb⟩ := hrel
    rcases List.eq_nil_or_concat st with rfl | ⟨st0, ⟨rx, lx⟩, rfl⟩
    · obtain ⟨A, c, rfl⟩ := hsv.shape
      have HF := Lib.hid (And.intro hfl (And.intro hown hb))
      clear hfl hst hsome hown hsv hb
      simp only [stV, List.map_nil, List.length_nil]
      go_wp2_with fail
      go_ret
      exact ⟨_, rfl, by have := HF.out.1; unfold flatS at this; simp at this; rw [← this]; exact HF.out.2.1, HF.out.2.2⟩
    · rw [List.concat_eq_append] at *
      rw [stV_append] at hsv
      obtain ⟨g, c, rfl, k0, hsv0, hcap⟩ := hsv.last
      have hlen : (stV st0).length = st0.length := List.length_map ..
      rw [hlen] at k0 hsv0 hcap ⊢
      have hgl := World.block_lt_of_cell? wr _ k0
      have hn0 : st0.length ≤ (flatS st0).length ∧ (st0 ≠ [] → rx ≠ none) := by
        rcases hsome with h | h
        · exact ⟨flatS_len (fun x hx => hst x (by simp [hx])) (fun x hx => h x (by simp [hx])), fun _ => h (rx, lx) (by simp)⟩
        · rw [List.length_append, List.length_singleton] at h
          have : st0 = [] := List.length_eq_zero_iff.1 (by omega)
          subst this
          exact ⟨by simp, fun h => absurd rfl h⟩
      rw [flatS_snoc] at hfl
      have hflen := congrArg List.length hfl
      simp only [List.length_append] at hflen
      have hrx := (hst (rx, lx) (by simp)).1
      have hlx := (hst (rx, lx) (by simp)).2
      have hst0 : ∀ x ∈ st0, RtN w k x.1 x.2 ∧ x.2.length ≤ 1000 := fun x hx => hst x (by simp [hx])
      have hsome0 : rx ≠ none → ∀ x ∈ st0, x.1 ≠ none := fun hne => by
        rcases hsome with h | h
        · exact fun x hx => h x (by simp [hx])
        · rw [List.length_append, List.length_singleton] at h
          have : st0 = [] := List.length_eq_zero_iff.1 (by omega)
          subst this
          exact fun x hx => by simp at hx
      obtain ⟨Ao, co, rfl⟩ : ∃ Ao co, u3 = .slice Ao outL.length co := by obtain ⟨A, c, e, _⟩ := hown.rd; exact ⟨A, c, e⟩
      have h1 : (0 : Int) ≤ (st0.length : Int) := by omega
      have h2 : (st0.length : Int) < (st0.length : Int) + 1 := by omega
      have h2' : (st0.length : Int) ≤ (st0.length : Int) + 1 := by omega
      have h3 : (st0.length : Int) + 1 > 0 := by omega
      have h4 : (st0.length : Int) ≤ (c : Int) := by omega
      have hw0 : wrap64 (st0.length : Int) = (st0.length : Int) := by have := HD.out.2.2.2; unfold wrap64; omega
      have HS := Lib.hid (And.intro hfl (And.intro hst0 (And.intro hsome0 (And.intro hown (And.intro hsv0 (And.intro hb (And.intro hflen hn0)))))))
      clear hfl hst hsome hown hsv hsv0 hb hst0 hsome0 hlen hflen hn0 hcap
      cases rx with
      | none =>
        simp only [stV, List.map_cons, List.map_nil, pv_none] at k0
        have HX := Lib.hid (show st0 = [] from by cases st0 with | nil => rfl | cons y ys => exact absurd rfl (HS.out.2.2.2.2.2.2.2.2 (by simp)))
        have HLX := Lib.hid (show lx = [] from hrx)
        clear hrx
        go_wp2_with fail
        go_roundw
        case rel => exact ⟨st0, outL, by have := HS.out.1; rw [HLX.out] at this; exact this, HS.out.2.1, .inr (by rw [HX.out]; simp), HS.out.2.2.2.1, HS.out.2.2.2.2.1, HS.out.2.2.2.2.2.1⟩
        case measure => simp [slLen]
      | some b =>
        have hnd : Nd w k b lx := hrx
        obtain ⟨ks, p1, p2, p3, p4, p5, p6⟩ := hnd.kidsOf hlx
        have HK := Lib.hid (And.intro p1 (And.intro p2 (And.intro p3 (And.intro p4 (And.intro p5 p6)))))
        have HSH := Lib.hid (fun w' (hb : Below w.heap.size w w') => nshape_any w' k b lx (hnd.bel hb) HD.out.1 HD.out.2.1)
        simp only [stV, List.map_cons, List.map_nil, pv_some] at k0
        clear hrx hnd p1 p2 p3 p4 p5 p6
        go_wp2_with fail
        refine (HSH.out _ HS.out.2.2.2.2.2.1).mono ?_
        rintro e w5 ⟨x, rfl, hx, hb5⟩
        obtain ⟨u, p9, rfl, hpt, hpl⟩ := hx.ex
        obtain ⟨Ap, cp, ep⟩ := hpl.shape
        obtain ⟨Au, cu, rfl, _⟩ := RdU.point hpt.rd
        rw [List.length_map, HK.out.1, List.length_map] at ep
        have hb5w : Below w.heap.size w w5 := HS.out.2.2.2.2.2.1.trans (hb5.mono HS.out.2.2.2.2.2.1.size)
        have hpt5 : PtK w w w5 _ p9 (shL lx) := ⟨.inr hpt, hpl.base HS.out.2.2.2.2.2.1.size⟩
        have hsl := slicesK w w w5 _ _ _ hpt5
        have H5 := Lib.hid (And.intro hpt5 (And.intro ((HS.out.2.2.2.1.below hb5).mono (PtK.below hb5)) (And.intro (HS.out.2.2.2.2.1.below hb5) hb5w)))
        have hgl5 : g < w5.heap.size := Nat.lt_of_lt_of_le hgl hb5.size
        subst ep
        clear hx hpt hpl hb5 hb5w hpt5 k0 hgl
        obtain ⟨S, hS⟩ : ∃ S, shL lx = S := ⟨_, rfl⟩
        rw [hS] at H5 HK hsl ⊢
        clear hS HSH
        go_wp2_with (at_builtin; refine wpList_append_S (Pt := PtK w w w5) rfl (.tmp 29) (.tmp 31) rfl w outL [S] ?_ ?_ ?_ ?_ ?_)
        · exact H5.out.2.1.below (by repeat (first | exact Below.refl _ _ | (refine Below.drew ?_) | (refine below_drewN' ?_ _) | (refine below_alloc' ?_ _) | (refine Below.setCell ?_ (by first | exact Nat.le_refl _ | (simp; done) | (simp; omega)) _)))
        · exact SrcS.one (slicesK _ _ _) H5.out.1 (by simp [go_sem]) (by simp [go_sem]) (by simp [go_sem]) (by simp [go_sem]) (by simp [go_sem])
        · have := H5.out.2.2.2.size; simp; omega
        · have := HS.out.2.2.2.2.2.2.1; have := HD.out.2.2.2; simp only [List.length_singleton]; omega
        intro v' w6 hown' hg
        have hoW := H5.out.2.1.below (w' := ((w5.alloc (.cells #[.int .i64 S.lv, .slice Au S.pre.length cu, .slice Ap ks.length cp, .bool S.dense, .int .u64 (S.v : Nat)] 115)).alloc (.cells #[.int .i64 S.lv, .slice Au S.pre.length cu, .slice Ap ks.length cp, .bool S.dense, .int .u64 (S.v : Nat)] 115))) (by repeat (first | exact Below.refl _ _ | (refine Below.drew ?_) | (refine below_drewN' ?_ _) | (refine below_alloc' ?_ _) | (refine Below.setCell ?_ (by first | exact Nat.le_refl _ | (simp; done) | (simp; omega)) _)))
        have hB6 : w6.heap[w5.heap.size]? = some (.cells #[.int .i64 S.lv, .slice Au S.pre.length cu, .slice Ap ks.length cp, .bool S.dense, .int .u64 (S.v : Nat)] 115 (0, 0)) := (hg.block _ (by simp; omega) fun e => by
          obtain ⟨_, cur, h⟩ := H5.out.2.1.block _ e.symm
          have := kr_lt h
          omega).trans (((below_alloc' (Below.refl _ _) _).block _ (by simp)).trans (alloc_blk _ _))
        have hpk : ∀ u p s, PtK w w w5 u p s → PtK w w w6 u p s := fun u p s h => PtK.grown hoW hg _ _ _ (PtK.below (w' := ((w5.alloc (.cells #[.int .i64 S.lv, .slice Au S.pre.length cu, .slice Ap ks.length cp, .bool S.dense, .int .u64 (S.v : Nat)] 115)).alloc (.cells #[.int .i64 S.lv, .slice Au S.pre.length cu, .slice Ap ks.length cp, .bool S.dense, .int .u64 (S.v : Nat)] 115))) (by repeat (first | exact Below.refl _ _ | (refine Below.drew ?_) | (refine below_drewN' ?_ _) | (refine below_alloc' ?_ _) | (refine Below.setCell ?_ (by first | exact Nat.le_refl _ | (simp; done) | (simp; omega)) _))) _ _ _ h)
        have hst6 := (H5.out.2.2.1.below (w' := ((w5.alloc (.cells #[.int .i64 S.lv, .slice Au S.pre.length cu, .slice Ap ks.length cp, .bool S.dense, .int .u64 (S.v : Nat)] 115)).alloc (.cells #[.int .i64 S.lv, .slice Au S.pre.length cu, .slice Ap ks.length cp, .bool S.dense, .int .u64 (S.v : Nat)] 115))) (by repeat (first | exact Below.refl _ _ | (refine Below.drew ?_) | (refine below_drewN' ?_ _) | (refine below_alloc' ?_ _) | (refine Below.setCell ?_ (by first | exact Nat.le_refl _ | (simp; done) | (simp; omega)) _)))).keepBlock fun b cur hb => hg.block b (kr_lt hb) fun e => by
          obtain ⟨_, c2, h2⟩ := hoW.block b e.symm
          rw [hb] at h2
          injection h2 with h2
          injection h2 with _ h2 _
          revert h2; decide
        have hb6 : Below w.heap.size w w6 := hoW.grown (H5.out.2.2.2.trans ((show Below w5.heap.size w5 ((w5.alloc (.cells #[.int .i64 S.lv, .slice Au S.pre.length cu, .slice Ap ks.length cp, .bool S.dense, .int .u64 (S.v : Nat)] 115)).alloc (.cells #[.int .i64 S.lv, .slice Au S.pre.length cu, .slice Ap ks.length cp, .bool S.dense, .int .u64 (S.v : Nat)] 115)) from (by repeat (first | exact Below.refl _ _ | (refine Below.drew ?_) | (refine below_drewN' ?_ _) | (refine below_alloc' ?_ _) | (refine Below.setCell ?_ (by first | exact Nat.le_refl _ | (simp; done) | (simp; omega)) _)))).mono H5.out.2.2.2.size)) hg
        have H6 := Lib.hid (And.intro (hown'.mono hpk) (And.intro hB6 (And.intro (hpk _ _ _ H5.out.1).2 (And.intro hst6 hb6))))
        have k2 : w6.cell? ⟨w5.heap.size, 2, none⟩ = some (.slice Ap ks.length cp) := by simp [World.cell?, hB6]
        have hl6 := kr_lt hB6
        generalize w5.heap.size = B at *
        have hw1 : wrap64 ((ks.length : Int) - 1) = (ks.length : Int) - 1 := by have := HK.out.2.2.2.1; unfold wrap64; omega
        have HW1 := Lib.hid hw1
        clear hown' hg hoW hpk hst6 hb6 hB6 H5 hw0 h1 h2 h2' h3 h4 hsl
        go_wp2_with fail
        clear k2 hw1 hl6
        go_loopw [4, 7] (fun sv iv wr2 => ∃ m : Nat, m ≤ ks.length ∧ iv = .int .i64 ((m : Int) - 1) ∧ OwnV 103 w wr2 sv (stV (st0 ++ kst (ks.drop m))) ∧ OwnS (PtK w w wr2) w wr2 v' (outL ++ [S]) ∧ wr2.heap[B]? = some (.cells #[.int .i64 S.lv, .slice Au S.pre.length cu, .slice Ap ks.length cp, .bool S.dense, .int .u64 (S.v : Nat)] 115 (0, 0)) ∧
          OwnV 3 w wr2 (.slice Ap ks.length cp) (S.pl.map fun (x : Nat) => Value.int .i64 (x : Nat)) ∧ Below w.heap.size w wr2) (fun _ iv _ => (intOf iv + 1).toNat)
        case atStart => exact ⟨ks.length, Nat.le_refl _, by first | rfl | rw [HW1.out], by rw [List.drop_length]; simp only [kst, List.reverse_nil, List.map_nil, List.append_nil]; exact H6.out.2.2.2.1, H6.out.1, H6.out.2.1, H6.out.2.2.1, H6.out.2.2.2.2⟩
        case round =>
          obtain ⟨m, hm, rfl, hsv, hown, hB, hpl, hb⟩ := hrel
          have HR2 := Lib.hid (And.intro hsv (And.intro hown (And.intro hB (And.intro hpl hb))))
          have HM := Lib.hid hm
          obtain ⟨As, cs, es⟩ := hsv.shape
          cases m with
          | zero =>
            have he : (((0 : Nat) : Int) - 1) = -1 := rfl
            clear hsv hown hB hpl hb hm es
            simp only [he]
            go_wp2_with fail
            go_roundw
            case rel =>
              refine ⟨st0 ++ kst ks, outL ++ [S], ?_, ?_, .inl ?_, HR2.out.2.1, HR2.out.1, HR2.out.2.2.2.2⟩
              · have := HS.out.1
                rw [HK.out.2.1] at this
                rw [flatS_kst, ← this]
                simp
              · intro x hx
                rcases List.mem_append.1 hx with hx | hx
                · exact HS.out.2.1 x hx
                · unfold kst at hx
                  obtain ⟨y, hy, rfl⟩ := List.mem_map.1 hx
                  exact ⟨HK.out.2.2.1 y (by simpa using hy), HK.out.2.2.2.2.1 y (by simpa using hy)⟩
              · intro x hx
                rcases List.mem_append.1 hx with hx | hx
                · exact HS.out.2.2.1 (by simp) x hx
                · unfold kst at hx
                  obtain ⟨y, hy, rfl⟩ := List.mem_map.1 hx
                  simp
            case measure =>
              obtain ⟨A9, c9, e9⟩ := HR2.out.1.shape
              obtain ⟨A8, c8, e8, _⟩ := HR2.out.2.1.rd
              rw [e9, e8]
              have hk : (stV (st0 ++ kst ks)).length = st0.length + ks.length := by unfold stV kst; simp
              have h1 := HS.out.2.2.2.2.2.2.1
              have h2 := HS.out.2.2.2.2.2.2.2.1
              have h3 : (shapesL lx).length = 1 + (ks.flatMap fun x => shapesL x.2.2).length := by rw [HK.out.2.1]; simp; omega
              have h4 : ks.length ≤ (ks.flatMap fun x => shapesL x.2.2).length := by
                have key : ∀ q : List (Nat × Nat × List En), (∀ x ∈ q, Nd w k x.2.1 x.2.2) → (∀ x ∈ q, x.2.2.length ≤ 1000) → q.length ≤ (q.flatMap fun x => shapesL x.2.2).length := by
                  intro q
                  induction q with
                  | nil => intros; simp
                  | cons x q ih =>
                    intro h1 h2
                    have h3 := ih (fun y hy => h1 y (by simp [hy])) (fun y hy => h2 y (by simp [hy]))
                    have h4 := RtN.shapes_pos (h1 x (by simp)) (h2 x (by simp))
                    simp only [List.flatMap_cons, List.length_append, List.length_cons]
                    omega
                exact key ks HK.out.2.2.1 HK.out.2.2.2.2.1
              simp only [slLen, List.drop_zero, List.length_append, List.length_singleton, hk]
              generalize (shapesL l).length = T at *
              obtain ⟨D, hD⟩ : ∃ D, T - (outL.length + 1) = D := ⟨_, rfl⟩
              have hD' : T - outL.length = D + 1 := by omega
              rw [hD, hD', Nat.succ_mul]
              omega
          | succ m =>
            have he : (((m + 1 : Nat) : Int) - 1) = (m : Int) := by omega
            have hml : m < ks.length := by omega
            obtain ⟨gp, np, ep, _, hcp⟩ := hpl.cells (by intro h; have := congrArg List.length h; have h9 := congrArg List.length HK.out.1; rw [List.length_map] at this h9; simp at this; rw [this] at h9; simp at h9; omega)
            have kp := hcp m (by rw [List.length_map, HK.out.1, List.length_map]; exact hml)
            have ke : S.pl[m]'(by rw [HK.out.1, List.length_map]; exact hml) = ks[m].1 := by simp only [HK.out.1, List.getElem_map]
            rw [List.getElem_map, ke] at kp
            injection ep with ep e2 e3
            subst ep
            clear e2 e3
            have HKD := Lib.hid (HK.out.2.2.2.2.2 m hml wr hb)
            have HKS := Lib.hid (kst_drop ks m hml)
            have k2 : wr.cell? ⟨B, 2, none⟩ = some (.slice (some ⟨gp, 0, none⟩) ks.length cp) := by simp [World.cell?, hB]
            have hlB := kr_lt hB
            have hlg : gp < wr.heap.size := World.block_lt_of_cell? wr _ kp
            have hf : (0 : Int) ≤ (m : Int) := by omega
            have hf2 : (m : Int) < (ks.length : Int) := by omega
            have HWR := Lib.hid (show wrap64 ((m : Int) - 1) = (m : Int) - 1 by have := HK.out.2.2.2.1; unfold wrap64; omega)
            obtain ⟨y1, hy1⟩ : ∃ y1, ks[m].1 = y1 := ⟨_, rfl⟩
            obtain ⟨y2, hy2⟩ : ∃ y2, ks[m].2.1 = y2 := ⟨_, rfl⟩
            rw [hy1, hy2] at HKD
            rw [hy1] at kp
            rw [hy2] at HKS
            subst es
            clear hsv hown hB hpl hb hcp ke hy1 hy2 hm
            simp only [he, pv_some] at *
            go_wp2_with fail
            refine HKD.out.mono ?_
            rintro e w7 ⟨rfl, hb7⟩
            have H7 := Lib.hid (And.intro (HR2.out.1.below hb7) (And.intro ((HR2.out.2.1.below hb7).mono (PtK.below hb7)) (And.intro ((hb7.block _ hlB).trans HR2.out.2.2.1) (And.intro (HR2.out.2.2.2.1.below hb7) (HR2.out.2.2.2.2.trans (hb7.mono HR2.out.2.2.2.2.size))))))
            clear hb7 k2 hlB kp hlg
            go_wp2_with (at_builtin; refine wpList_append_V rfl (.tmp 41) (.tmp 49) rfl w (stV (st0 ++ kst (ks.drop (m + 1)))) (.pointer (some ⟨y2, 0, none⟩)) nodesT ?_ ?_ ?_ ?_ ?_)
            · exact H7.out.1.below (by repeat (first | exact Below.refl _ _ | (refine Below.drew ?_) | (refine below_drewN' ?_ _) | (refine below_alloc' ?_ _) | (refine Below.setCell ?_ (by first | exact Nat.le_refl _ | (simp; done) | (simp; omega)) _)))
            · exact ⟨_, _, rfl, by simp [go_sem], rfl⟩
            · have := H7.out.2.2.2.2.size; simp; omega
            · have h1 := HS.out.2.2.2.2.2.2.1; have h2 := HS.out.2.2.2.2.2.2.2.1; have h3 := HD.out.2.2.2; have h4 := HK.out.2.2.2.1; unfold stV kst; simp; omega
            intro sv' w8 hown' hg
            have hsW := H7.out.1.below (w' := (w7.alloc (.cells #[.pointer (some ⟨y2, 0, none⟩)] 103))) (by repeat (first | exact Below.refl _ _ | (refine Below.drew ?_) | (refine below_drewN' ?_ _) | (refine below_alloc' ?_ _) | (refine Below.setCell ?_ (by first | exact Nat.le_refl _ | (simp; done) | (simp; omega)) _)))
            have hbW : Below w7.heap.size w7 (w7.alloc (.cells #[.pointer (some ⟨y2, 0, none⟩)] 103)) := (by repeat (first | exact Below.refl _ _ | (refine Below.drew ?_) | (refine below_drewN' ?_ _) | (refine below_alloc' ?_ _) | (refine Below.setCell ?_ (by first | exact Nat.le_refl _ | (simp; done) | (simp; omega)) _)))
            have H8 := Lib.hid (show OwnV 103 w w8 sv' (stV (st0 ++ kst (ks.drop m))) ∧ OwnS (PtK w w w8) w w8 v' (outL ++ [S]) ∧ w8.heap[B]? = some (.cells #[.int .i64 S.lv, .slice Au S.pre.length cu, .slice (some ⟨gp, 0, none⟩) ks.length cp, .bool S.dense, .int .u64 (S.v : Nat)] 115 (0, 0)) ∧
              OwnV 3 w w8 (.slice (some ⟨gp, 0, none⟩) ks.length cp) (S.pl.map fun (x : Nat) => Value.int .i64 (x : Nat)) ∧ Below w.heap.size w w8 from by
              refine ⟨?_, ?_, ?_, ?_, ?_⟩
              · rw [HKS.out, ← List.append_assoc, stV_append]; exact hown'
              · exact (((H7.out.2.1.below hbW).mono (PtK.below hbW)).grownV (by decide) hsW hg).mono (PtK.grownV (by decide) (by decide) hsW hg)
              · exact blkOther (by decide) ((hbW.block _ (kr_lt H7.out.2.2.1)).trans H7.out.2.2.1) hsW hg
              · exact (H7.out.2.2.2.1.below hbW).keepBlock fun b cur hb => by
                  rw [blkOther (by decide) hb hsW hg, hb]
              · exact hsW.grown (H7.out.2.2.2.2.trans (hbW.mono H7.out.2.2.2.2.size)) hg)
            clear hown' hg hsW hbW
            go_wp2_with fail
            go_roundw
            case rel => exact ⟨m, by omega, by first | rfl | rw [HWR.out], H8.out⟩
            case measure => rw [intOf_of' HWR.out, intOf_nat]; omega
end Go.Proofs.YtjokcagggmjgmaaGreat
/-! IsN -/
namespace Go.Proofs.YtjokcagggmjgmaaGreat
open Go.RowKit
set_option linter.unusedVariables false
set_option linter.unusedSimpArgs false
set_option maxRecDepth 100000

theorem sums_neq (S : Sm) (w : World) : (binOp .neq 159 (smV S) (smV S)).run Tryz.prog w = .ok (.bool false) w := by
  have u3 := Tryz.underlying49
  have a3 := Tryz.isAgg49
  have z3 := Tryz.sizeOf49
  have hS : Tryz.prog.underlying 159 = some (.struct (Tryz.prog.fieldsOf 159)) := by kernel_rfl
  have hp : Tryz.prog.stoodInHeld 159 = false := by kernel_rfl
  unfold smV
  rw [run_neq_struct, show (10000 : Nat) = 9999 + 1 from rfl, run_equalIn_struct w 9999 159 _ _ hS hp]
  simp only [Program.fieldsOf, Tryz.underlying159]
  go_simp
theorem sums_grd (S : Sm) (op : BinOp) (x y : Operand) (w : World) : (eqGuard op 159 x y (smV S) (smV S)).run Tryz.prog w = .ok () w := run_eqGuard_agg w op _ x y _ _ (by kernel_rfl)
theorem rShape_nd {k : Nat} {l : List En} (h : Tn k l) (W0 w : World) (v : Value) (hv : RdE W0 v l) (hb : Below W0.heap.size W0 w) (he : EtS k l) : Calls Tryz.prog 108 #[v] w fun e' w' => ShRP w w (shL l) e' w' := by
  cases h with
  | one e h => exact (rShape_one w w e v (hv.below hb) (Below.refl _ _))
  | node n pre ks hk hn => exact rShape_more w w k n pre ks v hk (hv.below hb) he
theorem Nd.vals {w : World} {k b : Nat} {l : List En} (h : Nd w k b l) : ∀ e ∈ l, e.v < 2 ^ 64 := by
  induction h with
  | leaf _ p v h hp ho hv => intro e he; obtain rfl : e = ⟨p, v⟩ := by simpa using he
                             exact hv
  | node _ s n pre ks h hs hkd hn ih =>
    intro e he
    obtain ⟨x, hx, he⟩ := mem_cat.1 he
    obtain ⟨y, hy, rfl⟩ := List.mem_map.1 hx
    exact ih y hy e he
theorem Tn.sh_pre {k : Nat} {l : List En} (h : Tn k l) : (shL l).pre = preL l := by
  cases h with
  | one e h => rw [preL_one]; rfl
  | node n pre ks hk hn => rw [hk.sh, hk.preL]
theorem Tn.sh_lv {k : Nat} {l : List En} (h : Tn k l) : (shL l).lv = (lev l : Int) - 1 := by
  cases h with
  | one e h => rw [lev_one]; rfl
  | node n pre ks hk hn => rw [hk.sh, hk.lev]; show (n : Int) = _; omega
theorem Tn.sh_pl {k : Nat} {l : List En} (h : Tn k l) : (shL l).pl.length ≤ l.length := by
  cases h with
  | one e h => simp [shL]
  | node n pre ks hk hn => rw [hk.sh]; simp only [List.length_map]; exact (cat_length ks hk.ne).1
theorem leaf_ent (w : World) (k b : Nat) (l : List En) (hnd : Nd w k b l) (hl1 : l.length = 1) (k1 : 1 ≤ k) (k16 : k ≤ 16) : Calls Tryz.prog 110 #[.pointer (some ⟨b, 0, none⟩)] w fun e w' => EntP w (l[0]'(by omega)).p (l[0]'(by omega)).v e w' := by
  obtain ⟨e, rfl⟩ := List.length_eq_one_iff.1 hl1
  obtain ⟨h, hp⟩ := hnd.leaf_hd
  exact ent_leaf w b k e.v _ e.p _ h hp k1 k16
set_option maxHeartbeats 4000000 in
theorem is06_one (w : World) (k b : Nat) (l : List En) (v : Value) (hnd : Nd w k b l) (hl1 : l.length = 1) (hv0 : RdE w v l) (he : EtS k l) (k1 : 1 ≤ k) (k16 : k ≤ 16) :
    Calls Tryz.prog 66 #[.pointer (some ⟨b, 0, none⟩), v] w fun e w' => e = .returned (.bool true) ∧ Below w.heap.size w w' := by
  have HEN := Lib.hid (fun w' (hb : Below w.heap.size w w') => leaf_ent w' k b l (hnd.bel hb) hl1 k1 k16)
  obtain ⟨va, kp, hh⟩ := hnd.hd
  obtain ⟨hpl, hpo, _⟩ := hnd.pre_ok
  have HNE := hnd.ne
  have hnl : 0 < l.length := List.length_pos_iff.2 HNE
  obtain ⟨u, c1, hu⟩ := hh.c1
  have HUP := Lib.hid (And.intro hu hpl)
  obtain ⟨A0, c0, rfl, _⟩ := RdU.point hu
  have HRS := Lib.hid (fun w' (hb : Below w.heap.size w w') => rShape_nd hnd.tn w w' v hv0 hb he)
  have HRU := Lib.hid (fun w' (hb : Below w.heap.size w w') => rSums_any w' l v (hv0.below hb) hnd.vals he.short)
  have HK := Lib.hid (fun w' (hb : Below w.heap.size w w') => nk_any w' b k A0 c0 (by have := Below.keeps hb _ _ c1; rw [hpl] at this; exact this))
  have HSH := Lib.hid (fun w' (hb : Below w.heap.size w w') => nshape_any w' k b l (hnd.bel hb) k1 k16)
  have HSS := Lib.hid (fun w' x y (hx : ShR w' x (shL l)) (hy : ShR w' y (shL l)) => rSameShape w' x y (shL l) hx hy (by rw [hnd.tn.sh_pre, hpl]; omega) (Nat.le_trans (hnd.tn.sh_pl) (by have := he.short; omega)))
  have HNS := Lib.hid (fun w' (hb : Below w.heap.size w w') => nsums_any w' b _ _ _ _ _ (hh.keep hb))
  have HLV := Lib.hid (fun w' (hb : Below w.heap.size w w') => nlev_any w' b _ (Below.keeps hb _ _ hh.c0))
  have HPF := Lib.hid (fun w' (hb : Below w.heap.size w w') => npref_any w' b (preL l) _ (Below.keeps hb _ _ c1) (hu.below hb) (by rw [hpl]; exact k1) (by rw [hpl]; exact k16))
  have HSA := Lib.hid (fun w' u u2 (h1 : RdU w' u (pti (preL l))) (h2 : RdU w' u2 (pti (shL l).pre)) => (Same_any u u2 _ _ w' h1 h2 (by unfold pti; rw [List.length_map, hpl]; omega)).mono fun e w'' ⟨q1, q2⟩ => (⟨by rw [q1, hnd.tn.sh_pre, decide_eq_true rfl], q2.elim fun n hn => hn ▸ drewN_below _ _⟩ : e = Ending.returned (.bool true) ∧ Below w'.heap.size w' w''))
  have hlv : (shL l).lv = (lev l : Int) - 1 := hnd.tn.sh_lv
  rw [← hlv] at HLV
  obtain ⟨A, c, rfl, _, hx⟩ := hv0
  obtain ⟨b2, o2, rfl, hc⟩ := hx hnl
  obtain ⟨ux, k0, kux, k1'⟩ := hc 0 hnl
  have e0 : l[0].p.length = k := he.et.len _ (List.getElem_mem hnl)
  simp only [Nat.zero_mul, Nat.add_zero] at k0 k1'
  have HV0 := Lib.hid (And.intro kux (And.intro k0 k1'))
  obtain ⟨Ax, cx, rfl, _⟩ := RdU.point kux
  rw [e0] at k0 HV0
  have HPL := Lib.hid e0
  clear e0
  have hsn := sums_neq (sumsL l)
  have hsg := sums_grd (sumsL l)
  have hfd0 : ∀ (z : Int) (u p : Value) (d : Bool) (x : Int) (w : World), (Instr.field 115 (.agg #[.int .i64 z, u, p, .bool d, .int .u64 x]) 0).run Tryz.prog w = .ok (.int .i64 z) w := fun _ _ _ _ _ _ => by kernel_rfl
  have hfd1 : ∀ (z : Int) (A : Option Addr) (n c : Nat) (p : Value) (d : Bool) (x : Int) (w : World), (Instr.field 115 (.agg #[.int .i64 z, .slice A n c, p, .bool d, .int .u64 x]) 1).run Tryz.prog w = .ok (.slice A n c) w := fun _ _ _ _ _ _ _ _ => by kernel_rfl
  have hnn : (0 : Int) < (l.length : Int) := by omega
  have hlz := World.block_lt_of_cell? w _ k0
  have ne0 : ((k : Int) != (k : Int)) = false := by simp
  have ne1 : ((shL l).lv != (shL l).lv) = false := by simp
  clear c1 hu hh hpo hlv HUP kux

  have HS2 := Lib.hid (fun w' u u2 (h1 : RdU w' u (pti l[0].p)) (h2 : RdU w' u2 (pti l[0].p)) => (Same_any u u2 _ _ w' h1 h2 (by unfold pti; rw [List.length_map, HPL.out]; omega)).mono fun e w'' ⟨q1, q2⟩ => (⟨by rw [q1, decide_eq_true rfl], q2.elim fun n hn => hn ▸ drewN_below _ _⟩ : e = Ending.returned (.bool true) ∧ Below w'.heap.size w' w''))
  clear hnd HNE he k1 k16 hpl hc hx
  rw [hl1] at *
  generalize shL l = SL at *
  generalize sumsL l = SM at *
  generalize (l[0]) = en at *
  have HBO := Lib.hid (Below.refl w.heap.size w)
  go_enter Tryz.func66, Tryz.ntmps66
  go_wp2_with fail
  refine (HEN.out _ (Below.refl _ _)).mono ?_
  rintro e ww1 ⟨u1, rfl, hpt, hb9⟩
  have hs9 : Below w.heap.size w ww1 := below_trans (by repeat (first | exact Below.refl _ _ | (refine Below.drew ?_) | (refine below_drewN' ?_ _) | (refine below_alloc' ?_ _) | (refine Below.setCell ?_ (by first | exact Nat.le_refl _ | (simp; done) | (simp; omega)) _))) hb9
  replace HBO := Lib.hid (HBO.out.trans ((hs9).mono HBO.out.size))
  obtain ⟨A1, c1, rfl, _⟩ := RdU.point hpt.rd
  have HPT := Lib.hid hpt
  clear hpt
  rw [HPL.out] at HPT ⊢
  clear hs9 hb9
  go_wp2_with fail
  refine (HK.out _ (by repeat (first | exact HBO.out | (refine Below.drew ?_) | (refine below_drewN' ?_ _) | (refine below_alloc' ?_ _) | (refine Below.setCell ?_ (by first | exact Nat.le_refl _ | (have := HBO.out.size; simp; omega) | (have := HBO.out.size; omega)) _)))).mono ?_
  rintro e w9 ⟨rfl, hw9⟩
  obtain rfl := hw9.symm
  clear hw9
  go_wp2_with fail
  refine (HSH.out _ (by repeat (first | exact HBO.out | (refine Below.drew ?_) | (refine below_drewN' ?_ _) | (refine below_alloc' ?_ _) | (refine Below.setCell ?_ (by first | exact Nat.le_refl _ | (have := HBO.out.size; simp; omega) | (have := HBO.out.size; omega)) _)))).mono ?_
  rintro e ww2 ⟨x1, rfl, hx1, hb9⟩
  have hs9 : Below ww1.heap.size ww1 ww2 := below_trans (by repeat (first | exact Below.refl _ _ | (refine Below.drew ?_) | (refine below_drewN' ?_ _) | (refine below_alloc' ?_ _) | (refine Below.setCell ?_ (by first | exact Nat.le_refl _ | (simp; done) | (simp; omega)) _))) hb9
  replace HBO := Lib.hid (HBO.out.trans ((hs9).mono HBO.out.size))
  replace HPT := Lib.hid (HPT.out.below (hs9))
  have HE := Lib.hid (show ww2.heap[ww1.heap.size]? = some (.cells #[.slice A1 k c1, .int .u64 (en.v : Nat)] 51 (0, 0)) from (hb9.block _ (by simp)).trans (alloc_blk _ _))
  have HX1 := Lib.hid hx1.rd
  obtain ⟨u2, p2, rfl, _, _⟩ := hx1.ex
  clear hx1
  clear hs9 hb9
  go_wp2_with fail
  refine (HRS.out _ (by repeat (first | exact HBO.out | (refine Below.drew ?_) | (refine below_drewN' ?_ _) | (refine below_alloc' ?_ _) | (refine Below.setCell ?_ (by first | exact Nat.le_refl _ | (have := HBO.out.size; simp; omega) | (have := HBO.out.size; omega)) _)))).mono ?_
  rintro e ww3 ⟨x2, rfl, hx2, hb9⟩
  have hs9 : Below ww2.heap.size ww2 ww3 := below_trans (by repeat (first | exact Below.refl _ _ | (refine Below.drew ?_) | (refine below_drewN' ?_ _) | (refine below_alloc' ?_ _) | (refine Below.setCell ?_ (by first | exact Nat.le_refl _ | (simp; done) | (simp; omega)) _))) hb9
  replace HBO := Lib.hid (HBO.out.trans ((hs9).mono HBO.out.size))
  replace HPT := Lib.hid (HPT.out.below (hs9))
  replace HE := Lib.hid (((hs9).block _ (kr_lt HE.out)).trans HE.out)
  replace HX1 := Lib.hid (HX1.out.below (hs9))
  have HX2 := Lib.hid (hx2.rd hb9)
  obtain ⟨u3, p3, rfl, _⟩ := hx2.pt
  clear hx2
  clear hs9 hb9
  go_wp2_with fail
  refine (HSS.out _ _ _ (HX1.out.below (by repeat (first | exact Below.refl _ _ | (refine Below.drew ?_) | (refine below_drewN' ?_ _) | (refine below_alloc' ?_ _) | (refine Below.setCell ?_ (by first | exact Nat.le_refl _ | (simp; done) | (simp; omega)) _)))) (HX2.out.below (by repeat (first | exact Below.refl _ _ | (refine Below.drew ?_) | (refine below_drewN' ?_ _) | (refine below_alloc' ?_ _) | (refine Below.setCell ?_ (by first | exact Nat.le_refl _ | (simp; done) | (simp; omega)) _))))).mono ?_
  rintro e ww4 ⟨rfl, hb9⟩
  have hs9 : Below ww3.heap.size ww3 ww4 := below_trans (by repeat (first | exact Below.refl _ _ | (refine Below.drew ?_) | (refine below_drewN' ?_ _) | (refine below_alloc' ?_ _) | (refine Below.setCell ?_ (by first | exact Nat.le_refl _ | (simp; done) | (simp; omega)) _))) hb9
  replace HBO := Lib.hid (HBO.out.trans ((hs9).mono HBO.out.size))
  replace HPT := Lib.hid (HPT.out.below (hs9))
  replace HE := Lib.hid (((hs9).block _ (kr_lt HE.out)).trans HE.out)
  replace HX1 := Lib.hid (HX1.out.below (hs9))
  clear hs9 hb9
  go_wp2_with fail
  clear HX1 HX2
  refine (HNS.out _ (by repeat (first | exact HBO.out | (refine Below.drew ?_) | (refine below_drewN' ?_ _) | (refine below_alloc' ?_ _) | (refine Below.setCell ?_ (by first | exact Nat.le_refl _ | (have := HBO.out.size; simp; omega) | (have := HBO.out.size; omega)) _)))).mono ?_
  rintro e ww5 ⟨rfl, hb9⟩
  have hs9 : Below ww4.heap.size ww4 ww5 := below_trans (by repeat (first | exact Below.refl _ _ | (refine Below.drew ?_) | (refine below_drewN' ?_ _) | (refine below_alloc' ?_ _) | (refine Below.setCell ?_ (by first | exact Nat.le_refl _ | (simp; done) | (simp; omega)) _))) hb9
  replace HBO := Lib.hid (HBO.out.trans ((hs9).mono HBO.out.size))
  replace HPT := Lib.hid (HPT.out.below (hs9))
  replace HE := Lib.hid (((hs9).block _ (kr_lt HE.out)).trans HE.out)
  clear hs9 hb9
  go_wp2_with fail
  refine (HRU.out _ (by repeat (first | exact HBO.out | (refine Below.drew ?_) | (refine below_drewN' ?_ _) | (refine below_alloc' ?_ _) | (refine Below.setCell ?_ (by first | exact Nat.le_refl _ | (have := HBO.out.size; simp; omega) | (have := HBO.out.size; omega)) _)))).mono ?_
  rintro e ww6 ⟨rfl, hb9⟩
  have hs9 : Below ww5.heap.size ww5 ww6 := below_trans (by repeat (first | exact Below.refl _ _ | (refine Below.drew ?_) | (refine below_drewN' ?_ _) | (refine below_alloc' ?_ _) | (refine Below.setCell ?_ (by first | exact Nat.le_refl _ | (simp; done) | (simp; omega)) _))) hb9
  replace HBO := Lib.hid (HBO.out.trans ((hs9).mono HBO.out.size))
  replace HPT := Lib.hid (HPT.out.below (hs9))
  replace HE := Lib.hid (((hs9).block _ (kr_lt HE.out)).trans HE.out)
  clear hs9 hb9
  go_wp2_with fail
  refine (HLV.out _ (by repeat (first | exact HBO.out | (refine Below.drew ?_) | (refine below_drewN' ?_ _) | (refine below_alloc' ?_ _) | (refine Below.setCell ?_ (by first | exact Nat.le_refl _ | (have := HBO.out.size; simp; omega) | (have := HBO.out.size; omega)) _)))).mono ?_
  rintro e w9 ⟨rfl, hw9⟩
  obtain rfl := hw9.symm
  clear hw9
  go_wp2_with fail
  refine (HRS.out _ (by repeat (first | exact HBO.out | (refine Below.drew ?_) | (refine below_drewN' ?_ _) | (refine below_alloc' ?_ _) | (refine Below.setCell ?_ (by first | exact Nat.le_refl _ | (have := HBO.out.size; simp; omega) | (have := HBO.out.size; omega)) _)))).mono ?_
  rintro e ww7 ⟨x2, rfl, hx2, hb9⟩
  have hs9 : Below ww6.heap.size ww6 ww7 := below_trans (by repeat (first | exact Below.refl _ _ | (refine Below.drew ?_) | (refine below_drewN' ?_ _) | (refine below_alloc' ?_ _) | (refine Below.setCell ?_ (by first | exact Nat.le_refl _ | (simp; done) | (simp; omega)) _))) hb9
  replace HBO := Lib.hid (HBO.out.trans ((hs9).mono HBO.out.size))
  replace HPT := Lib.hid (HPT.out.below (hs9))
  replace HE := Lib.hid (((hs9).block _ (kr_lt HE.out)).trans HE.out)
  obtain ⟨u4, p4, rfl, _⟩ := hx2.pt
  clear hx2
  clear hs9 hb9
  go_wp2_with fail
  refine (HPF.out _ (by repeat (first | exact HBO.out | (refine Below.drew ?_) | (refine below_drewN' ?_ _) | (refine below_alloc' ?_ _) | (refine Below.setCell ?_ (by first | exact Nat.le_refl _ | (have := HBO.out.size; simp; omega) | (have := HBO.out.size; omega)) _)))).mono ?_
  rintro e ww8 ⟨u5, rfl, hp5, hb9⟩
  have hs9 : Below ww7.heap.size ww7 ww8 := below_trans (by repeat (first | exact Below.refl _ _ | (refine Below.drew ?_) | (refine below_drewN' ?_ _) | (refine below_alloc' ?_ _) | (refine Below.setCell ?_ (by first | exact Nat.le_refl _ | (simp; done) | (simp; omega)) _))) hb9
  replace HBO := Lib.hid (HBO.out.trans ((hs9).mono HBO.out.size))
  replace HPT := Lib.hid (HPT.out.below (hs9))
  replace HE := Lib.hid (((hs9).block _ (kr_lt HE.out)).trans HE.out)
  obtain ⟨A5, c5, rfl, _⟩ := RdU.point hp5.rd
  have HP5 := Lib.hid hp5.rd
  clear hp5
  clear hs9 hb9
  go_wp2_with fail
  refine (HRS.out _ (by repeat (first | exact HBO.out | (refine Below.drew ?_) | (refine below_drewN' ?_ _) | (refine below_alloc' ?_ _) | (refine Below.setCell ?_ (by first | exact Nat.le_refl _ | (have := HBO.out.size; simp; omega) | (have := HBO.out.size; omega)) _)))).mono ?_
  rintro e ww9 ⟨x2, rfl, hx2, hb9⟩
  have hs9 : Below ww8.heap.size ww8 ww9 := below_trans (by repeat (first | exact Below.refl _ _ | (refine Below.drew ?_) | (refine below_drewN' ?_ _) | (refine below_alloc' ?_ _) | (refine Below.setCell ?_ (by first | exact Nat.le_refl _ | (simp; done) | (simp; omega)) _))) hb9
  replace HBO := Lib.hid (HBO.out.trans ((hs9).mono HBO.out.size))
  replace HPT := Lib.hid (HPT.out.below (hs9))
  replace HE := Lib.hid (((hs9).block _ (kr_lt HE.out)).trans HE.out)
  replace HP5 := Lib.hid (HP5.out.below (hs9))
  have HX2 := Lib.hid (hx2.rd hb9)
  obtain ⟨u6, p6, rfl, hpt6⟩ := hx2.pt
  have HP6 := Lib.hid (hpt6.1.elim (·.below hb9) (·.rd))
  clear hx2 hpt6 HX2
  obtain ⟨A6, c6, rfl, _⟩ := RdU.point HP6.out
  clear hs9 hb9
  go_wp2_with fail
  refine (HSA.out _ _ _ (HP5.out.below (by repeat (first | exact Below.refl _ _ | (refine Below.drew ?_) | (refine below_drewN' ?_ _) | (refine below_alloc' ?_ _) | (refine Below.setCell ?_ (by first | exact Nat.le_refl _ | (simp; done) | (simp; omega)) _)))) (HP6.out.below (by repeat (first | exact Below.refl _ _ | (refine Below.drew ?_) | (refine below_drewN' ?_ _) | (refine below_alloc' ?_ _) | (refine Below.setCell ?_ (by first | exact Nat.le_refl _ | (simp; done) | (simp; omega)) _))))).mono ?_
  rintro e ww10 ⟨rfl, hb9⟩
  have hs9 : Below ww9.heap.size ww9 ww10 := below_trans (by repeat (first | exact Below.refl _ _ | (refine Below.drew ?_) | (refine below_drewN' ?_ _) | (refine below_alloc' ?_ _) | (refine Below.setCell ?_ (by first | exact Nat.le_refl _ | (simp; done) | (simp; omega)) _))) hb9
  replace HBO := Lib.hid (HBO.out.trans ((hs9).mono HBO.out.size))
  replace HPT := Lib.hid (HPT.out.below (hs9))
  replace HE := Lib.hid (((hs9).block _ (kr_lt HE.out)).trans HE.out)
  replace HP5 := Lib.hid (HP5.out.below (hs9))
  replace HP6 := Lib.hid (HP6.out.below (hs9))
  clear HP5 HP6
  clear hs9 hb9
  have f0 : ww10.cell? ⟨ww1.heap.size, 0, none⟩ = some (.slice A1 k c1) := by simp [World.cell?, HE.out]
  have f1 : ww10.cell? ⟨ww1.heap.size, 1, none⟩ = some (.int .u64 (en.v : Nat)) := by simp [World.cell?, HE.out]
  have hE := kr_lt HE.out
  have g0 := Below.keeps HBO.out _ _ k0
  have g1 := Below.keeps HBO.out _ _ k1'
  have hb2 := World.block_lt_of_cell? _ _ g0
  go_wp2_with fail
  refine wp_region_vals 16 [fun z9 _ => z9 = .pointer (some ⟨ww1.heap.size, 1, none⟩),
    fun z9 _ => z9 = .int .u64 (en.v : Nat),
    fun z9 _ => z9 = .slice (some ⟨b2, o2, none⟩) 1 c,
    fun z9 _ => z9 = .pointer (some ⟨b2, o2, none⟩),
    fun z9 _ => z9 = .pointer (some ⟨b2, o2 + 1, none⟩),
    fun z9 _ => z9 = .int .u64 (en.v : Nat),
    fun z9 _ => z9 = .bool true,
    fun z9 _ => z9 = .bool true,
    fun z9 _ => z9 = .pointer (some ⟨ww1.heap.size, 0, none⟩),
    fun z9 _ => z9 = .slice A1 k c1,
    fun z9 _ => z9 = .slice (some ⟨b2, o2, none⟩) 1 c,
    fun z9 _ => z9 = .pointer (some ⟨b2, o2, none⟩),
    fun z9 _ => z9 = .pointer (some ⟨b2, o2, none⟩),
    fun z9 _ => z9 = .slice Ax k cx,
    fun z9 _ => z9 = .bool true,
    fun z9 _ => z9 = .bool true]
    (by kernel_rfl) (by kernel_rfl) (by kernel_rfl) (by kernel_rfl) ?_ ?_ ?_
  · intro V hV v w1 w2 h hb
    simp only [List.mem_cons, List.not_mem_nil, or_false] at hV
    rcases hV with rfl | rfl | rfl | rfl | rfl | rfl | rfl | rfl | rfl | rfl | rfl | rfl | rfl | rfl | rfl | rfl
    all_goals first | exact h | (exact h)
  · intro iq oq hiq hoq
    match iq, hiq with
    | 0, _ =>
    obtain rfl := Option.some.inj hoq
    intro a1 w1 K hk hK
    have e6 : a1.tmps.getD 6 undef = .pointer (some ⟨ww1.heap.size, 0, none⟩) := hk.same 6 (by simp)
    simp [Region.wanted, Oper.wp, Act.eval, go_sem, e6, f0, f1, g0, g1, hE, hb2]
    exact hK _ _ (Below.refl _ _) rfl
    | 1, _ =>
    obtain rfl := Option.some.inj hoq
    intro a1 w1 K hk hK
    have d68 : a1.tmps.getD 68 undef = .pointer (some ⟨ww1.heap.size, 1, none⟩) := hk.deps ⟨0, .data⟩ (by simp) rfl _ _ rfl rfl
    have c0 : w1.cell? ⟨ww1.heap.size, 0, none⟩ = some (.slice A1 k c1) := Below.keeps hk.ext _ _ (by simp [go_sem, f0, f1, g0, g1, hE, hb2])
    have c1 : w1.cell? ⟨ww1.heap.size, 1, none⟩ = some (.int .u64 (en.v : Nat)) := Below.keeps hk.ext _ _ (by simp [go_sem, f0, f1, g0, g1, hE, hb2])
    have c2 : w1.cell? ⟨b2, o2, none⟩ = some (.slice Ax k cx) := Below.keeps hk.ext _ _ (by simp [go_sem, f0, f1, g0, g1, hE, hb2])
    have c3 : w1.cell? ⟨b2, o2 + 1, none⟩ = some (.int .u64 (en.v : Nat)) := Below.keeps hk.ext _ _ (by simp [go_sem, f0, f1, g0, g1, hE, hb2])
    simp [Region.wanted, Oper.wp, Act.eval, go_sem, d68, c0, c1, c2, c3, f0, f1, g0, g1, hE, hb2]
    exact hK _ _ (Below.refl _ _) rfl
    | 2, _ =>
    obtain rfl := Option.some.inj hoq
    intro a1 w1 K hk hK
    have e1 : a1.tmps.getD 1 undef = .slice (some ⟨b2, o2, none⟩) 1 c := hk.same 1 (by simp)
    simp [Region.wanted, Oper.wp, Act.eval, go_sem, e1, f0, f1, g0, g1, hE, hb2]
    exact hK _ _ (Below.refl _ _) rfl
    | 3, _ =>
    obtain rfl := Option.some.inj hoq
    intro a1 w1 K hk hK
    have d70 : a1.tmps.getD 70 undef = .slice (some ⟨b2, o2, none⟩) 1 c := hk.deps ⟨2, .data⟩ (by simp) rfl _ _ rfl rfl
    simp [Region.wanted, Oper.wp, Act.eval, go_sem, d70, f0, f1, g0, g1, hE, hb2]
    exact hK _ _ (Below.refl _ _) rfl
    | 4, _ =>
    obtain rfl := Option.some.inj hoq
    intro a1 w1 K hk hK
    have d71 : a1.tmps.getD 71 undef = .pointer (some ⟨b2, o2, none⟩) := hk.deps ⟨3, .data⟩ (by simp) rfl _ _ rfl rfl
    simp [Region.wanted, Oper.wp, Act.eval, go_sem, d71, f0, f1, g0, g1, hE, hb2]
    exact hK _ _ (Below.refl _ _) rfl
    | 5, _ =>
    obtain rfl := Option.some.inj hoq
    intro a1 w1 K hk hK
    have d72 : a1.tmps.getD 72 undef = .pointer (some ⟨b2, o2 + 1, none⟩) := hk.deps ⟨4, .data⟩ (by simp) rfl _ _ rfl rfl
    have c0 : w1.cell? ⟨ww1.heap.size, 0, none⟩ = some (.slice A1 k c1) := Below.keeps hk.ext _ _ (by simp [go_sem, f0, f1, g0, g1, hE, hb2])
    have c1 : w1.cell? ⟨ww1.heap.size, 1, none⟩ = some (.int .u64 (en.v : Nat)) := Below.keeps hk.ext _ _ (by simp [go_sem, f0, f1, g0, g1, hE, hb2])
    have c2 : w1.cell? ⟨b2, o2, none⟩ = some (.slice Ax k cx) := Below.keeps hk.ext _ _ (by simp [go_sem, f0, f1, g0, g1, hE, hb2])
    have c3 : w1.cell? ⟨b2, o2 + 1, none⟩ = some (.int .u64 (en.v : Nat)) := Below.keeps hk.ext _ _ (by simp [go_sem, f0, f1, g0, g1, hE, hb2])
    simp [Region.wanted, Oper.wp, Act.eval, go_sem, d72, c0, c1, c2, c3, f0, f1, g0, g1, hE, hb2]
    exact hK _ _ (Below.refl _ _) rfl
    | 6, _ =>
    obtain rfl := Option.some.inj hoq
    intro a1 w1 K hk hK
    have d69 : a1.tmps.getD 69 undef = .int .u64 (en.v : Nat) := hk.deps ⟨1, .data⟩ (by simp) rfl _ _ rfl rfl
    have d73 : a1.tmps.getD 73 undef = .int .u64 (en.v : Nat) := hk.deps ⟨5, .data⟩ (by simp) rfl _ _ rfl rfl
    simp [Region.wanted, Oper.wp, Act.eval, go_sem, d69, d73, f0, f1, g0, g1, hE, hb2]
    exact hK _ _ (Below.refl _ _) rfl
    | 7, _ =>
    obtain rfl := Option.some.inj hoq
    intro a1 w1 K hk hK
    have d74 : a1.tmps.getD 74 undef = .bool true := hk.deps ⟨6, .data⟩ (by simp) rfl _ _ rfl rfl
    simp [Region.wanted, Oper.wp, Act.eval, go_sem, d74, f0, f1, g0, g1, hE, hb2]
    exact hK _ _ (Below.refl _ _) rfl
    | 8, _ =>
    obtain rfl := Option.some.inj hoq
    intro a1 w1 K hk hK
    have e6 : a1.tmps.getD 6 undef = .pointer (some ⟨ww1.heap.size, 0, none⟩) := hk.same 6 (by simp)
    have gd : a1.tmps[75]? = some (.bool true) := getD_bool (hk.deps ⟨7, .guard⟩ (by simp) rfl _ _ rfl rfl)
    simp [Region.wanted, Oper.wp, Act.eval, go_sem, e6, gd, yielded, f0, f1, g0, g1, hE, hb2]
    exact hK _ _ (Below.refl _ _) rfl
    | 9, _ =>
    obtain rfl := Option.some.inj hoq
    intro a1 w1 K hk hK
    have d76 : a1.tmps.getD 76 undef = .pointer (some ⟨ww1.heap.size, 0, none⟩) := hk.deps ⟨8, .data⟩ (by simp) rfl _ _ rfl rfl
    have gd : a1.tmps[75]? = some (.bool true) := getD_bool (hk.deps ⟨7, .guard⟩ (by simp) rfl _ _ rfl rfl)
    have c0 : w1.cell? ⟨ww1.heap.size, 0, none⟩ = some (.slice A1 k c1) := Below.keeps hk.ext _ _ (by simp [go_sem, f0, f1, g0, g1, hE, hb2])
    have c1 : w1.cell? ⟨ww1.heap.size, 1, none⟩ = some (.int .u64 (en.v : Nat)) := Below.keeps hk.ext _ _ (by simp [go_sem, f0, f1, g0, g1, hE, hb2])
    have c2 : w1.cell? ⟨b2, o2, none⟩ = some (.slice Ax k cx) := Below.keeps hk.ext _ _ (by simp [go_sem, f0, f1, g0, g1, hE, hb2])
    have c3 : w1.cell? ⟨b2, o2 + 1, none⟩ = some (.int .u64 (en.v : Nat)) := Below.keeps hk.ext _ _ (by simp [go_sem, f0, f1, g0, g1, hE, hb2])
    simp [Region.wanted, Oper.wp, Act.eval, go_sem, d76, gd, yielded, c0, c1, c2, c3, f0, f1, g0, g1, hE, hb2]
    exact hK _ _ (Below.refl _ _) rfl
    | 10, _ =>
    obtain rfl := Option.some.inj hoq
    intro a1 w1 K hk hK
    have e1 : a1.tmps.getD 1 undef = .slice (some ⟨b2, o2, none⟩) 1 c := hk.same 1 (by simp)
    have gd : a1.tmps[75]? = some (.bool true) := getD_bool (hk.deps ⟨7, .guard⟩ (by simp) rfl _ _ rfl rfl)
    simp [Region.wanted, Oper.wp, Act.eval, go_sem, e1, gd, yielded, f0, f1, g0, g1, hE, hb2]
    exact hK _ _ (Below.refl _ _) rfl
    | 11, _ =>
    obtain rfl := Option.some.inj hoq
    intro a1 w1 K hk hK
    have d78 : a1.tmps.getD 78 undef = .slice (some ⟨b2, o2, none⟩) 1 c := hk.deps ⟨10, .data⟩ (by simp) rfl _ _ rfl rfl
    have gd : a1.tmps[75]? = some (.bool true) := getD_bool (hk.deps ⟨7, .guard⟩ (by simp) rfl _ _ rfl rfl)
    simp [Region.wanted, Oper.wp, Act.eval, go_sem, d78, gd, yielded, f0, f1, g0, g1, hE, hb2]
    exact hK _ _ (Below.refl _ _) rfl
    | 12, _ =>
    obtain rfl := Option.some.inj hoq
    intro a1 w1 K hk hK
    have d79 : a1.tmps.getD 79 undef = .pointer (some ⟨b2, o2, none⟩) := hk.deps ⟨11, .data⟩ (by simp) rfl _ _ rfl rfl
    have gd : a1.tmps[75]? = some (.bool true) := getD_bool (hk.deps ⟨7, .guard⟩ (by simp) rfl _ _ rfl rfl)
    simp [Region.wanted, Oper.wp, Act.eval, go_sem, d79, gd, yielded, f0, f1, g0, g1, hE, hb2]
    exact hK _ _ (Below.refl _ _) rfl
    | 13, _ =>
    obtain rfl := Option.some.inj hoq
    intro a1 w1 K hk hK
    have d80 : a1.tmps.getD 80 undef = .pointer (some ⟨b2, o2, none⟩) := hk.deps ⟨12, .data⟩ (by simp) rfl _ _ rfl rfl
    have gd : a1.tmps[75]? = some (.bool true) := getD_bool (hk.deps ⟨7, .guard⟩ (by simp) rfl _ _ rfl rfl)
    have c0 : w1.cell? ⟨ww1.heap.size, 0, none⟩ = some (.slice A1 k c1) := Below.keeps hk.ext _ _ (by simp [go_sem, f0, f1, g0, g1, hE, hb2])
    have c1 : w1.cell? ⟨ww1.heap.size, 1, none⟩ = some (.int .u64 (en.v : Nat)) := Below.keeps hk.ext _ _ (by simp [go_sem, f0, f1, g0, g1, hE, hb2])
    have c2 : w1.cell? ⟨b2, o2, none⟩ = some (.slice Ax k cx) := Below.keeps hk.ext _ _ (by simp [go_sem, f0, f1, g0, g1, hE, hb2])
    have c3 : w1.cell? ⟨b2, o2 + 1, none⟩ = some (.int .u64 (en.v : Nat)) := Below.keeps hk.ext _ _ (by simp [go_sem, f0, f1, g0, g1, hE, hb2])
    simp [Region.wanted, Oper.wp, Act.eval, go_sem, d80, gd, yielded, c0, c1, c2, c3, f0, f1, g0, g1, hE, hb2]
    exact hK _ _ (Below.refl _ _) rfl
    | 14, _ =>
    obtain rfl := Option.some.inj hoq
    intro a1 w1 K hk hK
    have d77 : a1.tmps.getD 77 undef = .slice A1 k c1 := hk.deps ⟨9, .data⟩ (by simp) rfl _ _ rfl rfl
    have d81 : a1.tmps.getD 81 undef = .slice Ax k cx := hk.deps ⟨13, .data⟩ (by simp) rfl _ _ rfl rfl
    have gd : a1.tmps[75]? = some (.bool true) := getD_bool (hk.deps ⟨7, .guard⟩ (by simp) rfl _ _ rfl rfl)
    simp [Region.wanted, Oper.wp, Act.eval, go_sem, d77, d81, gd, yielded, f0, f1, g0, g1, hE, hb2]
    refine (HS2.out _ _ _ (HPT.out.rd.below (below_trans (by repeat (first | exact Below.refl _ _ | (refine Below.drew ?_) | (refine below_drewN' ?_ _) | (refine below_alloc' ?_ _) | (refine Below.setCell ?_ (by first | exact Nat.le_refl _ | (simp; done) | (simp; omega)) _))) hk.ext)) (HV0.out.1.below (below_trans (by repeat (first | exact HBO.out | (refine Below.drew ?_) | (refine below_drewN' ?_ _) | (refine below_alloc' ?_ _) | (refine Below.setCell ?_ (by first | exact Nat.le_refl _ | (have := HBO.out.size; simp; omega) | (have := HBO.out.size; omega)) _))) hk.ext))).mono ?_
    rintro e w9 ⟨rfl, hb9⟩
    exact hK _ _ hb9 rfl
    | 15, _ =>
    obtain rfl := Option.some.inj hoq
    intro a1 w1 K hk hK
    have d75 : a1.tmps.getD 75 undef = .bool true := hk.deps ⟨7, .data⟩ (by simp) rfl _ _ rfl rfl
    have d82 : a1.tmps.getD 82 undef = .bool true := hk.deps ⟨14, .data⟩ (by simp) rfl _ _ rfl rfl
    simp [Region.wanted, Oper.wp, Act.eval, go_sem, d75, d82, f0, f1, g0, g1, hE, hb2]
    exact hK _ _ (Below.refl _ _) rfl
    | k + 16, hk => exact absurd hk (by omega)
  · intro vs w3 hl hb3 hv
    match vs, hl with
    | [v0, v1, v2, v3, v4, v5, v6, v7, v8, v9, v10, v11, v12, v13, v14, v15], _ =>
    obtain rfl : v0 = .pointer (some ⟨ww1.heap.size, 1, none⟩) := hv 0 (by omega)
    obtain rfl : v1 = .int .u64 (en.v : Nat) := hv 1 (by omega)
    obtain rfl : v2 = .slice (some ⟨b2, o2, none⟩) 1 c := hv 2 (by omega)
    obtain rfl : v3 = .pointer (some ⟨b2, o2, none⟩) := hv 3 (by omega)
    obtain rfl : v4 = .pointer (some ⟨b2, o2 + 1, none⟩) := hv 4 (by omega)
    obtain rfl : v5 = .int .u64 (en.v : Nat) := hv 5 (by omega)
    obtain rfl : v6 = .bool true := hv 6 (by omega)
    obtain rfl : v7 = .bool true := hv 7 (by omega)
    obtain rfl : v8 = .pointer (some ⟨ww1.heap.size, 0, none⟩) := hv 8 (by omega)
    obtain rfl : v9 = .slice A1 k c1 := hv 9 (by omega)
    obtain rfl : v10 = .slice (some ⟨b2, o2, none⟩) 1 c := hv 10 (by omega)
    obtain rfl : v11 = .pointer (some ⟨b2, o2, none⟩) := hv 11 (by omega)
    obtain rfl : v12 = .pointer (some ⟨b2, o2, none⟩) := hv 12 (by omega)
    obtain rfl : v13 = .slice Ax k cx := hv 13 (by omega)
    obtain rfl : v14 = .bool true := hv 14 (by omega)
    obtain rfl : v15 = .bool true := hv 15 (by omega)
    clear hv
    simp only [putAll, List.take_succ_cons, List.take_zero, List.drop_succ_cons, List.drop_zero, Act.put, List.setIfInBounds_toArray, List.set_cons_succ, List.set_cons_zero]
    clear f0 f1 g0 g1
    have HF := Lib.hid (below_trans (by repeat (first | exact HBO.out | (refine Below.drew ?_) | (refine below_drewN' ?_ _) | (refine below_alloc' ?_ _) | (refine Below.setCell ?_ (by first | exact Nat.le_refl _ | (have := HBO.out.size; simp; omega) | (have := HBO.out.size; omega)) _))) hb3)
    clear hb3
    go_wp2_with fail
    go_ret
    exact ⟨rfl, HF.out⟩
set_option maxHeartbeats 4000000 in
theorem is06_node (w : World) (k b s n : Nat) (pre : List Nat) (ks : List (Nat × Nat × List En)) (l : List En) (v : Value) (hlk : l = cat (ks.map kl)) (hnd : Nd w k b l) (y3 : w.cell? ⟨b, 3, none⟩ = some (.pointer (some ⟨s, 0, none⟩))) (hs : SlR w s k (ks.map kb)) (hkd : Kd k n pre (ks.map kl))
    (ih : ∀ x ∈ ks, ∀ (w1 : World) (v : Value), Below w.heap.size w w1 → RdE w1 v x.2.2 → EtS k x.2.2 → Calls Tryz.prog 66 #[.pointer (some ⟨x.2.1, 0, none⟩), v] w1 fun e w' => e = .returned (.bool true) ∧ Below w1.heap.size w1 w')
    (hv0 : RdE w v l) (he : EtS k l) (k1 : 1 ≤ k) (k16 : k ≤ 16) :
    Calls Tryz.prog 66 #[.pointer (some ⟨b, 0, none⟩), v] w fun e w' => e = .returned (.bool true) ∧ Below w.heap.size w w' := by
  have HEN := Lib.hid (fun w' (hb : Below w.heap.size w w') => ent_node w' b s (Below.keeps hb _ _ y3))
  have hlev : lev l = n + 1 := by rw [hlk, hkd.lev]
  have hl2 : 2 ≤ l.length := by rw [hlk]; exact hkd.two_le
  have HKS := Lib.hid (fun w' (hb : Below w.heap.size w w') => rKids_any k n l v w w' hv0 hb he hlev (by omega))
  rw [show kidsL l = ks.map (·.2.2) by rw [hlk, hkd.kids, List.map_map]; rfl] at HKS
  obtain ⟨va, kp, hh⟩ := hnd.hd
  obtain ⟨hpl, hpo, _⟩ := hnd.pre_ok
  have HNE := hnd.ne
  have hnl : 0 < l.length := List.length_pos_iff.2 HNE
  obtain ⟨u, c1, hu⟩ := hh.c1
  have HUP := Lib.hid (And.intro hu hpl)
  obtain ⟨A0, c0, rfl, _⟩ := RdU.point hu
  have HRS := Lib.hid (fun w' (hb : Below w.heap.size w w') => rShape_nd hnd.tn w w' v hv0 hb he)
  have HRU := Lib.hid (fun w' (hb : Below w.heap.size w w') => rSums_any w' l v (hv0.below hb) hnd.vals he.short)
  have HK := Lib.hid (fun w' (hb : Below w.heap.size w w') => nk_any w' b k A0 c0 (by have := Below.keeps hb _ _ c1; rw [hpl] at this; exact this))
  have HSH := Lib.hid (fun w' (hb : Below w.heap.size w w') => nshape_any w' k b l (hnd.bel hb) k1 k16)
  have HSS := Lib.hid (fun w' x y (hx : ShR w' x (shL l)) (hy : ShR w' y (shL l)) => rSameShape w' x y (shL l) hx hy (by rw [hnd.tn.sh_pre, hpl]; omega) (Nat.le_trans (hnd.tn.sh_pl) (by have := he.short; omega)))
  have HNS := Lib.hid (fun w' (hb : Below w.heap.size w w') => nsums_any w' b _ _ _ _ _ (hh.keep hb))
  have HLV := Lib.hid (fun w' (hb : Below w.heap.size w w') => nlev_any w' b _ (Below.keeps hb _ _ hh.c0))
  have HPF := Lib.hid (fun w' (hb : Below w.heap.size w w') => npref_any w' b (preL l) _ (Below.keeps hb _ _ c1) (hu.below hb) (by rw [hpl]; exact k1) (by rw [hpl]; exact k16))
  have HSA := Lib.hid (fun w' u u2 (h1 : RdU w' u (pti (preL l))) (h2 : RdU w' u2 (pti (shL l).pre)) => (Same_any u u2 _ _ w' h1 h2 (by unfold pti; rw [List.length_map, hpl]; omega)).mono fun e w'' ⟨q1, q2⟩ => (⟨by rw [q1, hnd.tn.sh_pre, decide_eq_true rfl], q2.elim fun n hn => hn ▸ drewN_below _ _⟩ : e = Ending.returned (.bool true) ∧ Below w'.heap.size w' w''))
  have hlv : (shL l).lv = (lev l : Int) - 1 := hnd.tn.sh_lv
  rw [← hlv] at HLV
  obtain ⟨A, c, rfl, _, hx⟩ := hv0
  obtain ⟨b2, o2, rfl, hc⟩ := hx hnl
  obtain ⟨ux, k0, kux, k1'⟩ := hc 0 hnl
  have e0 : l[0].p.length = k := he.et.len _ (List.getElem_mem hnl)
  simp only [Nat.zero_mul, Nat.add_zero] at k0 k1'
  have HV0 := Lib.hid (And.intro kux (And.intro k0 k1'))
  obtain ⟨Ax, cx, rfl, _⟩ := RdU.point kux
  rw [e0] at k0 HV0
  have HPL := Lib.hid e0
  clear e0
  have hsn := sums_neq (sumsL l)
  have hsg := sums_grd (sumsL l)
  have hfd0 : ∀ (z : Int) (u p : Value) (d : Bool) (x : Int) (w : World), (Instr.field 115 (.agg #[.int .i64 z, u, p, .bool d, .int .u64 x]) 0).run Tryz.prog w = .ok (.int .i64 z) w := fun _ _ _ _ _ _ => by kernel_rfl
  have hfd1 : ∀ (z : Int) (A : Option Addr) (n c : Nat) (p : Value) (d : Bool) (x : Int) (w : World), (Instr.field 115 (.agg #[.int .i64 z, .slice A n c, p, .bool d, .int .u64 x]) 1).run Tryz.prog w = .ok (.slice A n c) w := fun _ _ _ _ _ _ _ _ => by kernel_rfl
  have hnn : (0 : Int) < (l.length : Int) := by omega
  have hlz := World.block_lt_of_cell? w _ k0
  have ne0 : ((k : Int) != (k : Int)) = false := by simp
  have ne1 : ((shL l).lv != (shL l).lv) = false := by simp
  clear c1 hu hh hpo hlv HUP kux

  have hlvn : (shL l).lv = (n : Int) := by rw [hlk, hkd.sh]
  have hk2 := hkd.two
  rw [List.length_map] at hk2
  have hcl : ks.length ≤ l.length ∧ ∀ x ∈ ks, x.2.2.length ≤ l.length := by
    rw [hlk]
    have := cat_length (ks.map kl) hkd.ne
    rw [List.length_map] at this
    refine ⟨this.1, fun x hx => ?_⟩
    have := this.2 (kl x) (List.mem_map_of_mem hx)
    have e : (kl x).2 = x.2.2 := rfl
    rw [e] at this
    omega
  have HIH := Lib.hid (fun j (hj : j < ks.length) w' v' (hb : Below w.heap.size w w') (hr : RdE w' v' ks[j].2.2) => ih ks[j] (List.getElem_mem hj) w' v' hb hr ⟨hkd.et (kl ks[j]) (List.mem_map_of_mem (List.getElem_mem hj)), he.k40, Nat.le_trans (hcl.2 _ (List.getElem_mem hj)) he.short⟩)
  have HKID := Lib.hid (fun j (hj : j < ks.length) w' (hb : Below w.heap.size w w') => (show Calls Tryz.prog 75 #[.pointer (some ⟨b, 0, none⟩), .int .i64 (ks[j].1 : Nat)] w' fun e w'' => e = .returned (pv (some ks[j].2.1)) ∧ Below w'.heap.size w' w'' from by
    have h1 := nkid_any w' b s k (ks.map kb) (ks[j].1 : Nat) (Below.keeps hb _ _ y3) (hs.below hb)
    have e : lookI (ks.map kb) (ks[j].1 : Nat) = some ks[j].2.1 := by
      unfold lookI
      rw [if_neg (by omega), Int.toNat_natCast]
      have := Od.look_mem (key := ka) hs.rw'.asc (x := kb ks[j]) (List.mem_map_of_mem (List.getElem_mem hj))
      rw [show ka (kb ks[j]) = ks[j].1 from rfl] at this
      rw [this]; rfl
    rw [e] at h1
    exact h1))
  have HADR := Lib.hid (fun j (hj : j < ks.length) (hj0 : 0 < ks[j].2.2.length) w' u (hu : RdU w' u (pti ks[j].2.2[0].p)) => (show Calls Tryz.prog 92 #[u, .int .i64 (shL l).lv] w' fun e w'' => e = .returned (.int .i64 (ks[j].1 : Nat)) ∧ Below w'.heap.size w' w'' from by
    have hm := List.mem_map_of_mem (f := kl) (List.getElem_mem hj)
    have he0 : ks[j].2.2[0] ∈ (kl ks[j]).2 := List.getElem_mem hj0
    rw [hlvn]
    refine (rAddr_any _ n u w' hu (by rw [hkd.len hm he0]; omega) (hkd.ok hm he0) hkd.n64).mono ?_
    rintro e w'' ⟨h1, h2⟩
    exact ⟨by rw [h1, hkd.adr _ hm _ he0]; rfl, h2 ▸ Below.refl _ _⟩))
  have HKL := Lib.hid (fun j (hj : j < ks.length) => (show 0 < ks[j].2.2.length ∧ ∀ (h : 0 < ((ks[j]'hj).2.2).length), (((ks[j]'hj).2.2)[0]'h).p.length = k from
    ⟨List.length_pos_iff.2 (hkd.ne (kl ks[j]) (List.mem_map_of_mem (List.getElem_mem hj))), fun h => hkd.len (x := kl ks[j]) (e := ks[j].2.2[0]'h) (List.mem_map_of_mem (List.getElem_mem hj)) (by show _ ∈ ks[j].2.2; exact List.getElem_mem h)⟩))
  have HLN := Lib.hid (Nat.le_trans hcl.1 he.short)
  have hle1 : ((l.length : Int) == 1) = false := by rw [beq_eq_false_iff_ne]; omega
  have HK2 := Lib.hid hk2
  clear hnd HNE he k1 k16 hpl hc hx hs hkd ih y3 hlev hl2 hlvn hcl hlk k1' hk2
  generalize (l[0]) = en at *
  generalize l.length = n0 at *
  generalize shL l = SL at *
  generalize sumsL l = SM at *
  have HBO := Lib.hid (Below.refl w.heap.size w)
  go_enter Tryz.func66, Tryz.ntmps66
  go_wp2_with fail
  refine (HEN.out _ (Below.refl _ _)).mono ?_
  rintro e ww1 ⟨rfl, hb9⟩
  have hs9 : Below w.heap.size w ww1 := below_trans (by repeat (first | exact Below.refl _ _ | (refine Below.drew ?_) | (refine below_drewN' ?_ _) | (refine below_alloc' ?_ _) | (refine Below.setCell ?_ (by first | exact Nat.le_refl _ | (simp; done) | (simp; omega)) _))) hb9
  replace HBO := Lib.hid (HBO.out.trans ((hs9).mono HBO.out.size))
  clear hs9 hb9
  go_wp2_with fail
  refine (HK.out _ (by repeat (first | exact HBO.out | (refine Below.drew ?_) | (refine below_drewN' ?_ _) | (refine below_alloc' ?_ _) | (refine Below.setCell ?_ (by first | exact Nat.le_refl _ | (have := HBO.out.size; simp; omega) | (have := HBO.out.size; omega)) _)))).mono ?_
  rintro e w9 ⟨rfl, hw9⟩
  obtain rfl := hw9.symm
  clear hw9
  go_wp2_with fail
  refine (HSH.out _ (by repeat (first | exact HBO.out | (refine Below.drew ?_) | (refine below_drewN' ?_ _) | (refine below_alloc' ?_ _) | (refine Below.setCell ?_ (by first | exact Nat.le_refl _ | (have := HBO.out.size; simp; omega) | (have := HBO.out.size; omega)) _)))).mono ?_
  rintro e ww2 ⟨x1, rfl, hx1, hb9⟩
  have hs9 : Below ww1.heap.size ww1 ww2 := below_trans (by repeat (first | exact Below.refl _ _ | (refine Below.drew ?_) | (refine below_drewN' ?_ _) | (refine below_alloc' ?_ _) | (refine Below.setCell ?_ (by first | exact Nat.le_refl _ | (simp; done) | (simp; omega)) _))) hb9
  replace HBO := Lib.hid (HBO.out.trans ((hs9).mono HBO.out.size))
  have HE := Lib.hid (show ww2.heap[ww1.heap.size]? = some (.cells #[.slice none 0 0, .int .u64 0] 51 (0, 0)) from (hb9.block _ (by simp)).trans (alloc_blk _ _))
  have HX1 := Lib.hid hx1.rd
  obtain ⟨u2, p2, rfl, _, _⟩ := hx1.ex
  clear hx1
  clear hs9 hb9
  go_wp2_with fail
  refine (HRS.out _ (by repeat (first | exact HBO.out | (refine Below.drew ?_) | (refine below_drewN' ?_ _) | (refine below_alloc' ?_ _) | (refine Below.setCell ?_ (by first | exact Nat.le_refl _ | (have := HBO.out.size; simp; omega) | (have := HBO.out.size; omega)) _)))).mono ?_
  rintro e ww3 ⟨x2, rfl, hx2, hb9⟩
  have hs9 : Below ww2.heap.size ww2 ww3 := below_trans (by repeat (first | exact Below.refl _ _ | (refine Below.drew ?_) | (refine below_drewN' ?_ _) | (refine below_alloc' ?_ _) | (refine Below.setCell ?_ (by first | exact Nat.le_refl _ | (simp; done) | (simp; omega)) _))) hb9
  replace HBO := Lib.hid (HBO.out.trans ((hs9).mono HBO.out.size))
  replace HE := Lib.hid (((hs9).block _ (kr_lt HE.out)).trans HE.out)
  replace HX1 := Lib.hid (HX1.out.below (hs9))
  have HX2 := Lib.hid (hx2.rd hb9)
  obtain ⟨u3, p3, rfl, _⟩ := hx2.pt
  clear hx2
  clear hs9 hb9
  go_wp2_with fail
  refine (HSS.out _ _ _ (HX1.out.below (by repeat (first | exact Below.refl _ _ | (refine Below.drew ?_) | (refine below_drewN' ?_ _) | (refine below_alloc' ?_ _) | (refine Below.setCell ?_ (by first | exact Nat.le_refl _ | (simp; done) | (simp; omega)) _)))) (HX2.out.below (by repeat (first | exact Below.refl _ _ | (refine Below.drew ?_) | (refine below_drewN' ?_ _) | (refine below_alloc' ?_ _) | (refine Below.setCell ?_ (by first | exact Nat.le_refl _ | (simp; done) | (simp; omega)) _))))).mono ?_
  rintro e ww4 ⟨rfl, hb9⟩
  have hs9 : Below ww3.heap.size ww3 ww4 := below_trans (by repeat (first | exact Below.refl _ _ | (refine Below.drew ?_) | (refine below_drewN' ?_ _) | (refine below_alloc' ?_ _) | (refine Below.setCell ?_ (by first | exact Nat.le_refl _ | (simp; done) | (simp; omega)) _))) hb9
  replace HBO := Lib.hid (HBO.out.trans ((hs9).mono HBO.out.size))
  replace HE := Lib.hid (((hs9).block _ (kr_lt HE.out)).trans HE.out)
  replace HX1 := Lib.hid (HX1.out.below (hs9))
  clear hs9 hb9
  go_wp2_with fail
  clear HX1 HX2
  refine (HNS.out _ (by repeat (first | exact HBO.out | (refine Below.drew ?_) | (refine below_drewN' ?_ _) | (refine below_alloc' ?_ _) | (refine Below.setCell ?_ (by first | exact Nat.le_refl _ | (have := HBO.out.size; simp; omega) | (have := HBO.out.size; omega)) _)))).mono ?_
  rintro e ww5 ⟨rfl, hb9⟩
  have hs9 : Below ww4.heap.size ww4 ww5 := below_trans (by repeat (first | exact Below.refl _ _ | (refine Below.drew ?_) | (refine below_drewN' ?_ _) | (refine below_alloc' ?_ _) | (refine Below.setCell ?_ (by first | exact Nat.le_refl _ | (simp; done) | (simp; omega)) _))) hb9
  replace HBO := Lib.hid (HBO.out.trans ((hs9).mono HBO.out.size))
  replace HE := Lib.hid (((hs9).block _ (kr_lt HE.out)).trans HE.out)
  clear hs9 hb9
  go_wp2_with fail
  refine (HRU.out _ (by repeat (first | exact HBO.out | (refine Below.drew ?_) | (refine below_drewN' ?_ _) | (refine below_alloc' ?_ _) | (refine Below.setCell ?_ (by first | exact Nat.le_refl _ | (have := HBO.out.size; simp; omega) | (have := HBO.out.size; omega)) _)))).mono ?_
  rintro e ww6 ⟨rfl, hb9⟩
  have hs9 : Below ww5.heap.size ww5 ww6 := below_trans (by repeat (first | exact Below.refl _ _ | (refine Below.drew ?_) | (refine below_drewN' ?_ _) | (refine below_alloc' ?_ _) | (refine Below.setCell ?_ (by first | exact Nat.le_refl _ | (simp; done) | (simp; omega)) _))) hb9
  replace HBO := Lib.hid (HBO.out.trans ((hs9).mono HBO.out.size))
  replace HE := Lib.hid (((hs9).block _ (kr_lt HE.out)).trans HE.out)
  clear hs9 hb9
  go_wp2_with fail
  refine (HLV.out _ (by repeat (first | exact HBO.out | (refine Below.drew ?_) | (refine below_drewN' ?_ _) | (refine below_alloc' ?_ _) | (refine Below.setCell ?_ (by first | exact Nat.le_refl _ | (have := HBO.out.size; simp; omega) | (have := HBO.out.size; omega)) _)))).mono ?_
  rintro e w9 ⟨rfl, hw9⟩
  obtain rfl := hw9.symm
  clear hw9
  go_wp2_with fail
  refine (HRS.out _ (by repeat (first | exact HBO.out | (refine Below.drew ?_) | (refine below_drewN' ?_ _) | (refine below_alloc' ?_ _) | (refine Below.setCell ?_ (by first | exact Nat.le_refl _ | (have := HBO.out.size; simp; omega) | (have := HBO.out.size; omega)) _)))).mono ?_
  rintro e ww7 ⟨x2, rfl, hx2, hb9⟩
  have hs9 : Below ww6.heap.size ww6 ww7 := below_trans (by repeat (first | exact Below.refl _ _ | (refine Below.drew ?_) | (refine below_drewN' ?_ _) | (refine below_alloc' ?_ _) | (refine Below.setCell ?_ (by first | exact Nat.le_refl _ | (simp; done) | (simp; omega)) _))) hb9
  replace HBO := Lib.hid (HBO.out.trans ((hs9).mono HBO.out.size))
  replace HE := Lib.hid (((hs9).block _ (kr_lt HE.out)).trans HE.out)
  obtain ⟨u4, p4, rfl, _⟩ := hx2.pt
  clear hx2
  clear hs9 hb9
  go_wp2_with fail
  refine (HPF.out _ (by repeat (first | exact HBO.out | (refine Below.drew ?_) | (refine below_drewN' ?_ _) | (refine below_alloc' ?_ _) | (refine Below.setCell ?_ (by first | exact Nat.le_refl _ | (have := HBO.out.size; simp; omega) | (have := HBO.out.size; omega)) _)))).mono ?_
  rintro e ww8 ⟨u5, rfl, hp5, hb9⟩
  have hs9 : Below ww7.heap.size ww7 ww8 := below_trans (by repeat (first | exact Below.refl _ _ | (refine Below.drew ?_) | (refine below_drewN' ?_ _) | (refine below_alloc' ?_ _) | (refine Below.setCell ?_ (by first | exact Nat.le_refl _ | (simp; done) | (simp; omega)) _))) hb9
  replace HBO := Lib.hid (HBO.out.trans ((hs9).mono HBO.out.size))
  replace HE := Lib.hid (((hs9).block _ (kr_lt HE.out)).trans HE.out)
  obtain ⟨A5, c5, rfl, _⟩ := RdU.point hp5.rd
  have HP5 := Lib.hid hp5.rd
  clear hp5
  clear hs9 hb9
  go_wp2_with fail
  refine (HRS.out _ (by repeat (first | exact HBO.out | (refine Below.drew ?_) | (refine below_drewN' ?_ _) | (refine below_alloc' ?_ _) | (refine Below.setCell ?_ (by first | exact Nat.le_refl _ | (have := HBO.out.size; simp; omega) | (have := HBO.out.size; omega)) _)))).mono ?_
  rintro e ww9 ⟨x2, rfl, hx2, hb9⟩
  have hs9 : Below ww8.heap.size ww8 ww9 := below_trans (by repeat (first | exact Below.refl _ _ | (refine Below.drew ?_) | (refine below_drewN' ?_ _) | (refine below_alloc' ?_ _) | (refine Below.setCell ?_ (by first | exact Nat.le_refl _ | (simp; done) | (simp; omega)) _))) hb9
  replace HBO := Lib.hid (HBO.out.trans ((hs9).mono HBO.out.size))
  replace HE := Lib.hid (((hs9).block _ (kr_lt HE.out)).trans HE.out)
  replace HP5 := Lib.hid (HP5.out.below (hs9))
  have HX2 := Lib.hid (hx2.rd hb9)
  obtain ⟨u6, p6, rfl, hpt6⟩ := hx2.pt
  have HP6 := Lib.hid (hpt6.1.elim (·.below hb9) (·.rd))
  clear hx2 hpt6 HX2
  obtain ⟨A6, c6, rfl, _⟩ := RdU.point HP6.out
  clear hs9 hb9
  go_wp2_with fail
  refine (HSA.out _ _ _ (HP5.out.below (by repeat (first | exact Below.refl _ _ | (refine Below.drew ?_) | (refine below_drewN' ?_ _) | (refine below_alloc' ?_ _) | (refine Below.setCell ?_ (by first | exact Nat.le_refl _ | (simp; done) | (simp; omega)) _)))) (HP6.out.below (by repeat (first | exact Below.refl _ _ | (refine Below.drew ?_) | (refine below_drewN' ?_ _) | (refine below_alloc' ?_ _) | (refine Below.setCell ?_ (by first | exact Nat.le_refl _ | (simp; done) | (simp; omega)) _))))).mono ?_
  rintro e ww10 ⟨rfl, hb9⟩
  have hs9 : Below ww9.heap.size ww9 ww10 := below_trans (by repeat (first | exact Below.refl _ _ | (refine Below.drew ?_) | (refine below_drewN' ?_ _) | (refine below_alloc' ?_ _) | (refine Below.setCell ?_ (by first | exact Nat.le_refl _ | (simp; done) | (simp; omega)) _))) hb9
  replace HBO := Lib.hid (HBO.out.trans ((hs9).mono HBO.out.size))
  replace HE := Lib.hid (((hs9).block _ (kr_lt HE.out)).trans HE.out)
  replace HP5 := Lib.hid (HP5.out.below (hs9))
  replace HP6 := Lib.hid (HP6.out.below (hs9))
  clear HP5 HP6
  clear hs9 hb9
  clear HE
  go_wp2_with fail
  refine (HKS.out _ (by repeat (first | exact HBO.out | (refine Below.drew ?_) | (refine below_drewN' ?_ _) | (refine below_alloc' ?_ _) | (refine Below.setCell ?_ (by first | exact Nat.le_refl _ | (have := HBO.out.size; simp; omega) | (have := HBO.out.size; omega)) _)))).mono ?_
  rintro e wk ⟨kv, rfl, ⟨kvs, hkv, hvl, hvs⟩, hb5⟩
  rw [List.length_map] at hvl
  have HBK := Lib.hid (below_trans (by repeat (first | exact HBO.out | (refine Below.drew ?_) | (refine below_drewN' ?_ _) | (refine below_alloc' ?_ _) | (refine Below.setCell ?_ (by first | exact Nat.le_refl _ | (have := HBO.out.size; simp; omega) | (have := HBO.out.size; omega)) _))) hb5)
  have hks0 : kvs ≠ [] := by intro h; rw [h] at hvl; have := HK2.out; rw [← hvl] at this; simp at this
  obtain ⟨gk, ck, rfl, hgk, hcv⟩ := hkv.cells hks0
  have HVS := Lib.hid (And.intro hvl (And.intro hvs hcv))
  clear hkv hgk hcv hb5 hvs hks0
  rw [hvl]
  obtain ⟨nk, hnk⟩ : ∃ nk, ks.length = nk := ⟨_, rfl⟩
  rw [hnk]
  have HNK := Lib.hid hnk
  clear hvl hnk
  go_wp2_with fail
  go_loopw [9] (fun iv wr => ∃ j : Nat, j ≤ nk ∧ iv = .int .i64 (j : Nat) ∧ Below wk.heap.size wk wr) (fun iv _ => nk - (intOf iv).toNat)
  case atStart => exact ⟨0, Nat.zero_le _, rfl, Below.refl _ _⟩
  case round =>
    obtain ⟨j, hj, rfl, hb⟩ := hrel
    have HBR := Lib.hid (HBK.out.trans (hb.mono HBK.out.size))
    by_cases hlt : j < nk
    · have h5 : (0 : Int) ≤ (j : Int) := by omega
      have h6 : (j : Int) < (nk : Int) := by omega
      have hjk : j < ks.length := by rw [HNK.out]; exact hlt
      have HW := Lib.hid (show wrap64 ((j : Int) + 1) = ((j + 1 : Nat) : Int) by have := HLN.out; unfold wrap64; omega)
      have hjv : j < kvs.length := by rw [HVS.out.1]; exact hjk
      have kj := Below.keeps hb _ _ (HVS.out.2.2 j hjv)
      have hrd := (HVS.out.2.1 j hjv (by rw [List.length_map]; exact hjk)).below HBR.out
      rw [List.getElem_map] at hrd
      have HIS := Lib.hid (fun w' (hb : Below wr.heap.size wr w') => HIH.out j hjk w' _ (HBR.out.trans (hb.mono HBR.out.size)) (hrd.below hb))
      have HKD := Lib.hid (HKID.out j hjk)
      obtain ⟨hj0, hkk⟩ := HKL.out j hjk
      have HADJ := Lib.hid (HADR.out j hjk hj0)
      obtain ⟨Aj, cj, ej, z9, hxj⟩ := hrd
      obtain ⟨bj, oj, rfl, hcj⟩ := hxj hj0
      obtain ⟨up, g0, hup, z8⟩ := hcj 0 hj0
      have HAD := Lib.hid (fun w' (hb : Below wr.heap.size wr w') => HADJ.out w' up (hup.below hb))
      obtain ⟨Ap, cp, rfl, z7⟩ := RdU.point hup
      rw [hkk hj0] at g0 HAD
      simp only [Nat.zero_mul, Nat.add_zero] at g0
      rw [ej] at kj HIS
      have h7 : (0 : Int) < (ks[j].2.2.length : Int) := by omega
      have h8 : 0 < ks[j].2.2.length := hj0
      clear ej hup hcj hxj HADJ hkk z9 z8 z7 hj0
      generalize ks[j].2.2.length = nj at *
      obtain ⟨y1, hy1⟩ : ∃ y1, ks[j].1 = y1 := ⟨_, rfl⟩
      obtain ⟨y2, hy2⟩ : ∃ y2, ks[j].2.1 = y2 := ⟨_, rfl⟩
      rw [hy1] at HAD HKD
      rw [hy2] at HKD HIS
      simp only [pv_some] at HKD
      have hgl := World.block_lt_of_cell? wr _ kj
      have hjl := World.block_lt_of_cell? wr _ g0
      have HBJ := Lib.hid hb
      clear hb hy1 hy2
      go_wp2_with fail
      refine wp_region_vals 17 [fun z9 _ => z9 = .pointer (some ⟨b, 0, none⟩),
        fun z9 _ => z9 = .slice (some ⟨gk, 0, none⟩) nk ck,
        fun z9 _ => z9 = .int .i64 (j : Nat),
        fun z9 _ => z9 = .pointer (some ⟨gk, j, none⟩),
        fun z9 _ => z9 = .slice (some ⟨bj, oj, none⟩) nj cj,
        fun z9 _ => z9 = .pointer (some ⟨bj, oj, none⟩),
        fun z9 _ => z9 = .pointer (some ⟨bj, oj, none⟩),
        fun z9 _ => z9 = .slice Ap k cp,
        fun z9 _ => z9 = .pointer (some ⟨b, 0, none⟩),
        fun z9 _ => z9 = .int .i64 SL.lv,
        fun z9 _ => z9 = .int .i64 (y1 : Nat),
        fun z9 _ => z9 = .pointer (some ⟨y2, 0, none⟩),
        fun z9 _ => z9 = .slice (some ⟨gk, 0, none⟩) nk ck,
        fun z9 _ => z9 = .int .i64 (j : Nat),
        fun z9 _ => z9 = .pointer (some ⟨gk, j, none⟩),
        fun z9 _ => z9 = .slice (some ⟨bj, oj, none⟩) nj cj,
        fun z9 _ => z9 = .bool true]
        (by kernel_rfl) (by kernel_rfl) (by kernel_rfl) (by kernel_rfl) ?_ ?_ ?_
      · intro V hV v w1 w2 h hb
        simp only [List.mem_cons, List.not_mem_nil, or_false] at hV
        rcases hV with rfl | rfl | rfl | rfl | rfl | rfl | rfl | rfl | rfl | rfl | rfl | rfl | rfl | rfl | rfl | rfl | rfl
        all_goals first | exact h | (exact h)
      · intro iq oq hiq hoq
        match iq, hiq with
        | 0, _ =>
        obtain rfl := Option.some.inj hoq
        intro a1 w1 K hk hK
        have e0 : a1.tmps.getD 0 undef = .pointer (some ⟨b, 0, none⟩) := hk.same 0 (by simp)
        simp [Region.wanted, Oper.wp, Act.eval, go_sem, e0, kj, g0, h5, h6, h7, h8, hgl, hjl]
        exact hK _ _ (Below.refl _ _) rfl
        | 1, _ =>
        obtain rfl := Option.some.inj hoq
        intro a1 w1 K hk hK
        have e8 : a1.tmps.getD 8 undef = .slice (some ⟨gk, 0, none⟩) nk ck := hk.same 8 (by simp)
        simp [Region.wanted, Oper.wp, Act.eval, go_sem, e8, kj, g0, h5, h6, h7, h8, hgl, hjl]
        exact hK _ _ (Below.refl _ _) rfl
        | 2, _ =>
        obtain rfl := Option.some.inj hoq
        intro a1 w1 K hk hK
        have e9 : a1.tmps.getD 9 undef = .int .i64 (j : Nat) := hk.same 9 (by simp)
        simp [Region.wanted, Oper.wp, Act.eval, go_sem, e9, kj, g0, h5, h6, h7, h8, hgl, hjl]
        exact hK _ _ (Below.refl _ _) rfl
        | 3, _ =>
        obtain rfl := Option.some.inj hoq
        intro a1 w1 K hk hK
        have d93 : a1.tmps.getD 93 undef = .slice (some ⟨gk, 0, none⟩) nk ck := hk.deps ⟨1, .data⟩ (by simp) rfl _ _ rfl rfl
        have d94 : a1.tmps.getD 94 undef = .int .i64 (j : Nat) := hk.deps ⟨2, .data⟩ (by simp) rfl _ _ rfl rfl
        simp [Region.wanted, Oper.wp, Act.eval, go_sem, d93, d94, kj, g0, h5, h6, h7, h8, hgl, hjl]
        exact hK _ _ (Below.refl _ _) rfl
        | 4, _ =>
        obtain rfl := Option.some.inj hoq
        intro a1 w1 K hk hK
        have d95 : a1.tmps.getD 95 undef = .pointer (some ⟨gk, j, none⟩) := hk.deps ⟨3, .data⟩ (by simp) rfl _ _ rfl rfl
        have c0 : w1.cell? ⟨gk, j, none⟩ = some (.slice (some ⟨bj, oj, none⟩) nj cj) := Below.keeps hk.ext _ _ (by simp [go_sem, kj, g0, h5, h6, h7, h8, hgl, hjl])
        have c1 : w1.cell? ⟨bj, oj, none⟩ = some (.slice Ap k cp) := Below.keeps hk.ext _ _ (by simp [go_sem, kj, g0, h5, h6, h7, h8, hgl, hjl])
        simp [Region.wanted, Oper.wp, Act.eval, go_sem, d95, c0, c1, kj, g0, h5, h6, h7, h8, hgl, hjl]
        exact hK _ _ (Below.refl _ _) rfl
        | 5, _ =>
        obtain rfl := Option.some.inj hoq
        intro a1 w1 K hk hK
        have d96 : a1.tmps.getD 96 undef = .slice (some ⟨bj, oj, none⟩) nj cj := hk.deps ⟨4, .data⟩ (by simp) rfl _ _ rfl rfl
        simp [Region.wanted, Oper.wp, Act.eval, go_sem, d96, kj, g0, h5, h6, h7, h8, hgl, hjl]
        exact hK _ _ (Below.refl _ _) rfl
        | 6, _ =>
        obtain rfl := Option.some.inj hoq
        intro a1 w1 K hk hK
        have d97 : a1.tmps.getD 97 undef = .pointer (some ⟨bj, oj, none⟩) := hk.deps ⟨5, .data⟩ (by simp) rfl _ _ rfl rfl
        simp [Region.wanted, Oper.wp, Act.eval, go_sem, d97, kj, g0, h5, h6, h7, h8, hgl, hjl]
        exact hK _ _ (Below.refl _ _) rfl
        | 7, _ =>
        obtain rfl := Option.some.inj hoq
        intro a1 w1 K hk hK
        have d98 : a1.tmps.getD 98 undef = .pointer (some ⟨bj, oj, none⟩) := hk.deps ⟨6, .data⟩ (by simp) rfl _ _ rfl rfl
        have c0 : w1.cell? ⟨gk, j, none⟩ = some (.slice (some ⟨bj, oj, none⟩) nj cj) := Below.keeps hk.ext _ _ (by simp [go_sem, kj, g0, h5, h6, h7, h8, hgl, hjl])
        have c1 : w1.cell? ⟨bj, oj, none⟩ = some (.slice Ap k cp) := Below.keeps hk.ext _ _ (by simp [go_sem, kj, g0, h5, h6, h7, h8, hgl, hjl])
        simp [Region.wanted, Oper.wp, Act.eval, go_sem, d98, c0, c1, kj, g0, h5, h6, h7, h8, hgl, hjl]
        exact hK _ _ (Below.refl _ _) rfl
        | 8, _ =>
        obtain rfl := Option.some.inj hoq
        intro a1 w1 K hk hK
        have e0 : a1.tmps.getD 0 undef = .pointer (some ⟨b, 0, none⟩) := hk.same 0 (by simp)
        simp [Region.wanted, Oper.wp, Act.eval, go_sem, e0, kj, g0, h5, h6, h7, h8, hgl, hjl]
        exact hK _ _ (Below.refl _ _) rfl
        | 9, _ =>
        obtain rfl := Option.some.inj hoq
        intro a1 w1 K hk hK
        have d100 : a1.tmps.getD 100 undef = .pointer (some ⟨b, 0, none⟩) := hk.deps ⟨8, .data⟩ (by simp) rfl _ _ rfl rfl
        simp [Region.wanted, Oper.wp, Act.eval, go_sem, d100, kj, g0, h5, h6, h7, h8, hgl, hjl]
        refine (HLV.out _ (below_trans (by repeat (first | exact HBR.out | (refine Below.drew ?_) | (refine below_drewN' ?_ _) | (refine below_alloc' ?_ _) | (refine Below.setCell ?_ (by first | exact Nat.le_refl _ | (have := HBR.out.size; simp; omega) | (have := HBR.out.size; omega)) _))) hk.ext)).mono ?_
        rintro e w9 ⟨rfl, hw9⟩
        obtain rfl := hw9.symm
        exact hK _ _ (Below.refl _ _) rfl
        | 10, _ =>
        obtain rfl := Option.some.inj hoq
        intro a1 w1 K hk hK
        have d99 : a1.tmps.getD 99 undef = .slice Ap k cp := hk.deps ⟨7, .data⟩ (by simp) rfl _ _ rfl rfl
        have d101 : a1.tmps.getD 101 undef = .int .i64 SL.lv := hk.deps ⟨9, .data⟩ (by simp) rfl _ _ rfl rfl
        simp [Region.wanted, Oper.wp, Act.eval, go_sem, d99, d101, kj, g0, h5, h6, h7, h8, hgl, hjl]
        refine (HAD.out _ (below_trans (by repeat (first | exact Below.refl _ _ | (refine Below.drew ?_) | (refine below_drewN' ?_ _) | (refine below_alloc' ?_ _) | (refine Below.setCell ?_ (by first | exact Nat.le_refl _ | (simp; done) | (simp; omega)) _))) hk.ext)).mono ?_
        rintro e w9 ⟨rfl, hb9⟩
        exact hK _ _ hb9 rfl
        | 11, _ =>
        obtain rfl := Option.some.inj hoq
        intro a1 w1 K hk hK
        have d92 : a1.tmps.getD 92 undef = .pointer (some ⟨b, 0, none⟩) := hk.deps ⟨0, .data⟩ (by simp) rfl _ _ rfl rfl
        have d102 : a1.tmps.getD 102 undef = .int .i64 (y1 : Nat) := hk.deps ⟨10, .data⟩ (by simp) rfl _ _ rfl rfl
        simp [Region.wanted, Oper.wp, Act.eval, go_sem, d92, d102, kj, g0, h5, h6, h7, h8, hgl, hjl]
        refine (HKD.out _ (below_trans (by repeat (first | exact HBR.out | (refine Below.drew ?_) | (refine below_drewN' ?_ _) | (refine below_alloc' ?_ _) | (refine Below.setCell ?_ (by first | exact Nat.le_refl _ | (have := HBR.out.size; simp; omega) | (have := HBR.out.size; omega)) _))) hk.ext)).mono ?_
        rintro e w9 ⟨rfl, hb9⟩
        exact hK _ _ hb9 rfl
        | 12, _ =>
        obtain rfl := Option.some.inj hoq
        intro a1 w1 K hk hK
        have e8 : a1.tmps.getD 8 undef = .slice (some ⟨gk, 0, none⟩) nk ck := hk.same 8 (by simp)
        simp [Region.wanted, Oper.wp, Act.eval, go_sem, e8, kj, g0, h5, h6, h7, h8, hgl, hjl]
        exact hK _ _ (Below.refl _ _) rfl
        | 13, _ =>
        obtain rfl := Option.some.inj hoq
        intro a1 w1 K hk hK
        have e9 : a1.tmps.getD 9 undef = .int .i64 (j : Nat) := hk.same 9 (by simp)
        simp [Region.wanted, Oper.wp, Act.eval, go_sem, e9, kj, g0, h5, h6, h7, h8, hgl, hjl]
        exact hK _ _ (Below.refl _ _) rfl
        | 14, _ =>
        obtain rfl := Option.some.inj hoq
        intro a1 w1 K hk hK
        have d104 : a1.tmps.getD 104 undef = .slice (some ⟨gk, 0, none⟩) nk ck := hk.deps ⟨12, .data⟩ (by simp) rfl _ _ rfl rfl
        have d105 : a1.tmps.getD 105 undef = .int .i64 (j : Nat) := hk.deps ⟨13, .data⟩ (by simp) rfl _ _ rfl rfl
        simp [Region.wanted, Oper.wp, Act.eval, go_sem, d104, d105, kj, g0, h5, h6, h7, h8, hgl, hjl]
        exact hK _ _ (Below.refl _ _) rfl
        | 15, _ =>
        obtain rfl := Option.some.inj hoq
        intro a1 w1 K hk hK
        have d106 : a1.tmps.getD 106 undef = .pointer (some ⟨gk, j, none⟩) := hk.deps ⟨14, .data⟩ (by simp) rfl _ _ rfl rfl
        have c0 : w1.cell? ⟨gk, j, none⟩ = some (.slice (some ⟨bj, oj, none⟩) nj cj) := Below.keeps hk.ext _ _ (by simp [go_sem, kj, g0, h5, h6, h7, h8, hgl, hjl])
        have c1 : w1.cell? ⟨bj, oj, none⟩ = some (.slice Ap k cp) := Below.keeps hk.ext _ _ (by simp [go_sem, kj, g0, h5, h6, h7, h8, hgl, hjl])
        simp [Region.wanted, Oper.wp, Act.eval, go_sem, d106, c0, c1, kj, g0, h5, h6, h7, h8, hgl, hjl]
        exact hK _ _ (Below.refl _ _) rfl
        | 16, _ =>
        obtain rfl := Option.some.inj hoq
        intro a1 w1 K hk hK
        have d103 : a1.tmps.getD 103 undef = .pointer (some ⟨y2, 0, none⟩) := hk.deps ⟨11, .data⟩ (by simp) rfl _ _ rfl rfl
        have d107 : a1.tmps.getD 107 undef = .slice (some ⟨bj, oj, none⟩) nj cj := hk.deps ⟨15, .data⟩ (by simp) rfl _ _ rfl rfl
        simp [Region.wanted, Oper.wp, Act.eval, go_sem, d103, d107, kj, g0, h5, h6, h7, h8, hgl, hjl]
        refine (HIS.out _ (below_trans (by repeat (first | exact Below.refl _ _ | (refine Below.drew ?_) | (refine below_drewN' ?_ _) | (refine below_alloc' ?_ _) | (refine Below.setCell ?_ (by first | exact Nat.le_refl _ | (simp; done) | (simp; omega)) _))) hk.ext)).mono ?_
        rintro e w9 ⟨rfl, hb9⟩
        exact hK _ _ hb9 rfl
        | k + 17, hk => exact absurd hk (by omega)
      · intro vs w3 hl hb3 hv
        match vs, hl with
        | [v0, v1, v2, v3, v4, v5, v6, v7, v8, v9, v10, v11, v12, v13, v14, v15, v16], _ =>
        obtain rfl : v0 = .pointer (some ⟨b, 0, none⟩) := hv 0 (by omega)
        obtain rfl : v1 = .slice (some ⟨gk, 0, none⟩) nk ck := hv 1 (by omega)
        obtain rfl : v2 = .int .i64 (j : Nat) := hv 2 (by omega)
        obtain rfl : v3 = .pointer (some ⟨gk, j, none⟩) := hv 3 (by omega)
        obtain rfl : v4 = .slice (some ⟨bj, oj, none⟩) nj cj := hv 4 (by omega)
        obtain rfl : v5 = .pointer (some ⟨bj, oj, none⟩) := hv 5 (by omega)
        obtain rfl : v6 = .pointer (some ⟨bj, oj, none⟩) := hv 6 (by omega)
        obtain rfl : v7 = .slice Ap k cp := hv 7 (by omega)
        obtain rfl : v8 = .pointer (some ⟨b, 0, none⟩) := hv 8 (by omega)
        obtain rfl : v9 = .int .i64 SL.lv := hv 9 (by omega)
        obtain rfl : v10 = .int .i64 (y1 : Nat) := hv 10 (by omega)
        obtain rfl : v11 = .pointer (some ⟨y2, 0, none⟩) := hv 11 (by omega)
        obtain rfl : v12 = .slice (some ⟨gk, 0, none⟩) nk ck := hv 12 (by omega)
        obtain rfl : v13 = .int .i64 (j : Nat) := hv 13 (by omega)
        obtain rfl : v14 = .pointer (some ⟨gk, j, none⟩) := hv 14 (by omega)
        obtain rfl : v15 = .slice (some ⟨bj, oj, none⟩) nj cj := hv 15 (by omega)
        obtain rfl : v16 = .bool true := hv 16 (by omega)
        clear hv
        simp only [putAll, List.take_succ_cons, List.take_zero, List.drop_succ_cons, List.drop_zero, Act.put, List.setIfInBounds_toArray, List.set_cons_succ, List.set_cons_zero]
        have HF := Lib.hid (show Below wr.heap.size wr w3 from below_trans (by repeat (first | exact Below.refl _ _ | (refine Below.drew ?_) | (refine below_drewN' ?_ _) | (refine below_alloc' ?_ _) | (refine Below.setCell ?_ (by first | exact Nat.le_refl _ | (simp; done) | (simp; omega)) _))) hb3)
        clear kj g0 hb3
        go_wp2_with fail
        go_roundw
        case rel => exact ⟨j + 1, by omega, (by first | rw [HW.out] | rfl | simp), HBJ.out.trans (HF.out.mono HBJ.out.size)⟩
        case measure => (first | (rw [intOf_of' HW.out, intOf_of' rfl]; omega) | (simp [intOf]; omega) | (simp [intOf] <;> omega))
    · have h6 : ¬ (j : Int) < (nk : Int) := by omega
      clear hb
      go_wp2_with fail
      go_ret
      exact ⟨rfl, (by repeat (first | exact HBR.out | (refine Below.drew ?_) | (refine below_drewN' ?_ _) | (refine below_alloc' ?_ _) | (refine Below.setCell ?_ (by first | exact Nat.le_refl _ | (have := HBR.out.size; simp; omega) | (have := HBR.out.size; omega)) _)))⟩
end Go.Proofs.YtjokcagggmjgmaaGreat
/-! IsT -/
namespace Go.Proofs.YtjokcagggmjgmaaGreat
open Go.RowKit
set_option linter.unusedVariables false
set_option linter.unusedSimpArgs false
set_option maxRecDepth 100000

theorem is06_any {w : World} {k b : Nat} {l : List En} (hnd : Nd w k b l) (k1 : 1 ≤ k) (k16 : k ≤ 16) : ∀ (w1 : World) (v : Value), Below w.heap.size w w1 → RdE w1 v l → EtS k l →
    Calls Tryz.prog 66 #[.pointer (some ⟨b, 0, none⟩), v] w1 fun e w' => e = .returned (.bool true) ∧ Below w1.heap.size w1 w' := by
  induction hnd with
  | leaf b p x h hp ho hv => intro w1 v hb hr he; exact is06_one w1 k b _ v ((Nd.leaf b p x h hp ho hv).bel hb) rfl hr he k1 k16
  | node b s n pre ks h hs hkd hn ih =>
    intro w1 v hb hr he
    exact is06_node w1 k b s n pre ks _ v rfl ((Nd.node b s n pre ks h hs hkd hn).bel hb) (Below.keeps hb _ _ h.c3) (hs.below hb) hkd (fun x hx w2 v2 hb2 h1 h2 => ih x hx w2 v2 (hb.trans (hb2.mono hb.size)) h1 h2) hr he k1 k16
theorem RdS.mono {Pt Qt : PtS'} {w : World} {v : Value} {l : List Sh} (h : RdS Pt w v l) (hk : ∀ u p s, Pt u p s → Qt u p s) : RdS Qt w v l := by
  obtain ⟨A, c, e, h⟩ := h
  exact ⟨A, c, e, fun hp => let ⟨b, h1, h2⟩ := h hp; ⟨b, h1, fun j hj => let ⟨u, pl, a0, a1, a2, a3, a4, a5⟩ := h2 j hj; ⟨u, pl, a0, a1, a2, a3, a4, hk _ _ _ a5⟩⟩⟩
theorem RdS.below {Pt : PtS'} {w w' : World} {v : Value} {l : List Sh} (h : RdS Pt w v l) (hb : Below w.heap.size w w') : RdS Pt w' v l := by
  obtain ⟨A, c, e, h⟩ := h
  have hk := Below.keeps hb
  exact ⟨A, c, e, fun hp => let ⟨b, h1, h2⟩ := h hp; ⟨b, h1, fun j hj => let ⟨u, pl, a0, a1, a2, a3, a4, a5⟩ := h2 j hj; ⟨u, pl, hk _ _ a0, hk _ _ a1, hk _ _ a2, hk _ _ a3, hk _ _ a4, a5⟩⟩⟩
theorem Tn.sh_small {k : Nat} {l : List En} (h : Tn k l) (hk : k ≤ 40) (hl : l.length ≤ 1000) : ∀ s ∈ shapesL l, s.pre.length ≤ 100 ∧ s.pl.length ≤ 100000 := by
  induction h with
  | one e h =>
    intro s hs
    rw [shapes_one] at hs
    obtain rfl : s = shL [e] := by simpa using hs
    exact ⟨by show e.p.length ≤ 100; omega, by simp [shL]⟩
  | node n pre ks hkd hn ih =>
    intro s hs
    rw [Tn.shapes hkd hn] at hs
    rcases List.mem_cons.1 hs with rfl | hs
    · rw [hkd.sh]
      exact ⟨by have := hkd.preLen.1; show pre.length ≤ 100; omega, by simp only [List.length_map]; have := (cat_length ks hkd.ne).1; omega⟩
    · obtain ⟨x, hx, hs⟩ := List.mem_flatMap.1 hs
      exact ih x hx (by have := hkd.kid_lt hx; omega) s hs
theorem sums_n (l : List En) (h : l.length < 2 ^ 64) : (sumsL l).n = l.length := by
  induction l with
  | nil => rfl
  | cons e l ih =>
    cases l with
    | nil => rfl
    | cons f l =>
      rw [sumsL_cons e (f :: l) (by simp)]
      have h1 := ih (by simp at h ⊢; omega)
      show (1 + (sumsL (f :: l)).n) % 2 ^ 64 = _
      rw [h1]
      simp only [List.length_cons] at h ⊢
      omega
theorem tlen_any (w : World) (t k : Nat) (l : List En) (ht : TrR w t k l) (hs : l.length ≤ 1000) : Calls Tryz.prog 63 #[.pointer (some ⟨t, 0, none⟩)] w fun e w' => e = .returned (.int .i64 (l.length : Nat)) ∧ Below w.heap.size w w' := by
  obtain ⟨r, c1, hr⟩ := ht.c1
  obtain ⟨q, hq⟩ := pv_ex r
  have HSU : Hid (Calls Tryz.prog 107 #[pv r] w fun e w' => e = .returned (smV (sumsL l)) ∧ Below w.heap.size w w') := by
    cases r with
    | none => obtain rfl : l = [] := hr; exact Lib.hid (nsums_nil w)
    | some b => obtain ⟨v, kp, hh⟩ := Nd.hd hr; exact Lib.hid (nsums_any w b _ _ _ _ _ hh)
  have hn := sums_n l (by omega)
  have hw : wrap64 (l.length : Int) = (l.length : Int) := by unfold wrap64; omega
  generalize sumsL l = S at *
  have hfd : ∀ w : World, (Instr.field 159 (.agg #[.int .u64 (S.n : Nat), .int .u64 (S.s : Nat), .int .u64 (S.mn : Nat), .int .u64 (S.mx : Nat)]) 0).run Tryz.prog w = .ok (.int .u64 (S.n : Nat)) w := fun _ => by kernel_rfl
  rw [hq] at c1 HSU
  have HN := Lib.hid hn
  clear ht hr hq hs hn
  go_enter Tryz.func63, Tryz.ntmps63
  go_wp2_with fail
  refine (troot_any w t q c1).mono ?_
  rintro e w1 ⟨rfl, hw1⟩
  obtain rfl := hw1.symm
  clear hw1
  go_wp2_with fail
  refine HSU.out.mono ?_
  rintro e w2 ⟨rfl, hb⟩
  have HB := Lib.hid hb
  clear hb
  unfold smV
  go_wp2_with fail
  go_ret
  exact ⟨by simp [HN.out, hw], HB.out⟩
set_option maxHeartbeats 4000000 in
theorem is07_any (w : World) (t k : Nat) (l : List En) (v : Value) (ht : TrR w t k l) (hv : RdE w v l) (he : EtS k l) :
    Calls Tryz.prog 23 #[.pointer (some ⟨t, 0, none⟩), .int .i64 (k : Nat), v] w fun e w' => e = .returned (.bool true) ∧ Below w.heap.size w w' := by
  obtain ⟨r, c1, hr⟩ := ht.c1
  obtain ⟨q, hq⟩ := pv_ex r
  have HK := Lib.hid (fun w' (hb : Below w.heap.size w w') => tk_any w' t k (Below.keeps hb _ _ ht.c0))
  have HLN := Lib.hid (fun w' (hb : Below w.heap.size w w') => tlen_any w' t k l (ht.bel hb) he.short)
  have HSH := Lib.hid (fun w' (hb : Below w.heap.size w w') => tshapes_any w' t k l (ht.bel hb) he.short)
  have HRT := Lib.hid (fun w' (hb : Below w.heap.size w w') => troot_any w' t q (Below.keeps hb _ _ (hq ▸ c1)))
  have HRS : Hid (∀ w', Below w.heap.size w w' → Calls Tryz.prog 64 #[v] w' fun e' w'' => ShsP w' w' (shapesL l) e' w'') := by
    cases r with
    | none => obtain rfl : l = [] := hr; exact Lib.hid fun w' hb => rShapes_nil w' w' v (hv.below hb)
    | some b => exact Lib.hid fun w' hb => rShapes_tn (Nd.tn hr) w' w' v (hv.below hb) (Below.refl _ _) he
  have hsm : (shapesL l).length ≤ 100000 ∧ ∀ s ∈ shapesL l, s.pre.length ≤ 100 ∧ s.pl.length ≤ 100000 := by
    cases r with
    | none => obtain rfl : l = [] := hr; exact ⟨by decide, fun s hs => by simp [shapesL, shapesF] at hs⟩
    | some b => exact ⟨by have := (Nd.tn hr).len; have := he.short; omega, (Nd.tn hr).sh_small he.k40 he.short⟩
  have HSS := Lib.hid (fun w' x y (hx : RdS (PtR w') w' x (shapesL l)) (hy : RdS (PtR w') w' y (shapesL l)) => rSameShapes w' x y (shapesL l) hx hy hsm.1 hsm.2)
  have HIS : Hid (l ≠ [] → ∀ w', Below w.heap.size w w' → Calls Tryz.prog 66 #[.pointer q, v] w' fun e w'' => e = .returned (.bool true) ∧ Below w'.heap.size w' w'') := by
    refine Lib.hid fun hne w' hb => ?_
    cases r with
    | none => exact absurd hr hne
    | some b =>
      rw [← hq]
      exact is06_any (hnd := hr) ht.k1 ht.k16 w' v hb (hv.below hb) he
  have hnil : l = [] → q = none := fun h => by
    cases r with
    | none => injection hq with hq; exact hq.symm
    | some b => exact absurd h (Nd.ne hr)
  have ne0 : ((k : Int) != (k : Int)) = false := by simp
  have ne1 : ((l.length : Int) != (l.length : Int)) = false := by simp
  obtain ⟨A, c, rfl, hvz⟩ := hv
  clear ht hr hq he c1 hsm hvz

  have HBO := Lib.hid (Below.refl w.heap.size w)
  go_enter Tryz.func23, Tryz.ntmps23
  go_wp2_with fail
  refine (HK.out _ (by repeat (first | exact HBO.out | (refine Below.drew ?_) | (refine below_drewN' ?_ _) | (refine below_alloc' ?_ _) | (refine Below.setCell ?_ (by first | exact Nat.le_refl _ | (have := HBO.out.size; simp; omega) | (have := HBO.out.size; omega)) _)))).mono ?_
  rintro e w9 ⟨rfl, hw9⟩
  obtain rfl := hw9.symm
  clear hw9
  go_wp2_with fail
  refine (HLN.out _ (by repeat (first | exact HBO.out | (refine Below.drew ?_) | (refine below_drewN' ?_ _) | (refine below_alloc' ?_ _) | (refine Below.setCell ?_ (by first | exact Nat.le_refl _ | (have := HBO.out.size; simp; omega) | (have := HBO.out.size; omega)) _)))).mono ?_
  rintro e ww1 ⟨rfl, hb9⟩
  have hs9 : Below w.heap.size w ww1 := below_trans (by repeat (first | exact Below.refl _ _ | (refine Below.drew ?_) | (refine below_drewN' ?_ _) | (refine below_alloc' ?_ _) | (refine Below.setCell ?_ (by first | exact Nat.le_refl _ | (simp; done) | (simp; omega)) _))) hb9
  replace HBO := Lib.hid (HBO.out.trans ((hs9).mono HBO.out.size))
  clear hs9 hb9
  go_wp2_with fail
  refine (HSH.out _ (by repeat (first | exact HBO.out | (refine Below.drew ?_) | (refine below_drewN' ?_ _) | (refine below_alloc' ?_ _) | (refine Below.setCell ?_ (by first | exact Nat.le_refl _ | (have := HBO.out.size; simp; omega) | (have := HBO.out.size; omega)) _)))).mono ?_
  rintro e wa ⟨x1, rfl, ho1, hb9⟩
  have hs9 : Below ww1.heap.size ww1 wa := below_trans (by repeat (first | exact Below.refl _ _ | (refine Below.drew ?_) | (refine below_drewN' ?_ _) | (refine below_alloc' ?_ _) | (refine Below.setCell ?_ (by first | exact Nat.le_refl _ | (simp; done) | (simp; omega)) _))) hb9
  have HX1 := Lib.hid ((ho1.mono (PtK.rd hb9)).rd)
  replace HBO := Lib.hid (HBO.out.trans (hs9.mono HBO.out.size))
  clear ho1 hb9 hs9
  go_wp2_with fail
  refine (HRS.out _ (by repeat (first | exact HBO.out | (refine Below.drew ?_) | (refine below_drewN' ?_ _) | (refine below_alloc' ?_ _) | (refine Below.setCell ?_ (by first | exact Nat.le_refl _ | (have := HBO.out.size; simp; omega) | (have := HBO.out.size; omega)) _)))).mono ?_
  rintro e wb ⟨x2, rfl, ho2, hb9⟩
  have hs9 : Below wa.heap.size wa wb := below_trans (by repeat (first | exact Below.refl _ _ | (refine Below.drew ?_) | (refine below_drewN' ?_ _) | (refine below_alloc' ?_ _) | (refine Below.setCell ?_ (by first | exact Nat.le_refl _ | (simp; done) | (simp; omega)) _))) hb9
  have HX2 := Lib.hid ((ho2.mono (PtK.rd hb9)).rd)
  replace HX1 := Lib.hid ((HX1.out.mono (PtR.below hs9)).below hs9)
  replace HBO := Lib.hid (HBO.out.trans (hs9.mono HBO.out.size))
  clear ho2 hb9 hs9
  go_wp2_with fail
  refine (HSS.out _ _ _ HX1.out HX2.out).mono ?_
  rintro e wc ⟨rfl, hb9⟩
  have hs9 : Below wb.heap.size wb wc := below_trans (by repeat (first | exact Below.refl _ _ | (refine Below.drew ?_) | (refine below_drewN' ?_ _) | (refine below_alloc' ?_ _) | (refine Below.setCell ?_ (by first | exact Nat.le_refl _ | (simp; done) | (simp; omega)) _))) hb9
  replace HBO := Lib.hid (HBO.out.trans (hs9.mono HBO.out.size))
  clear hb9 hs9
  by_cases h0 : l = []
  · subst h0
    obtain rfl := hnil rfl
    simp only [List.length_nil] at *
    go_wp2_with fail
    refine (HRT.out _ (by repeat (first | exact HBO.out | (refine Below.drew ?_) | (refine below_drewN' ?_ _) | (refine below_alloc' ?_ _) | (refine Below.setCell ?_ (by first | exact Nat.le_refl _ | (have := HBO.out.size; simp; omega) | (have := HBO.out.size; omega)) _)))).mono ?_
    rintro e w1 ⟨rfl, hw1⟩
    obtain rfl := hw1.symm
    clear hw1
    go_wp2_with fail
    go_ret
    exact ⟨rfl, (by repeat (first | exact HBO.out | (refine Below.drew ?_) | (refine below_drewN' ?_ _) | (refine below_alloc' ?_ _) | (refine Below.setCell ?_ (by first | exact Nat.le_refl _ | (have := HBO.out.size; simp; omega) | (have := HBO.out.size; omega)) _)))⟩
  · have h1 : ((l.length : Int) == 0) = false := by rw [beq_eq_false_iff_ne]; have := List.length_pos_iff.2 h0; omega
    replace HIS := Lib.hid (HIS.out h0)
    have hpos := List.length_pos_iff.2 h0
    clear HRS HLN HSH HSS HX1 HX2 h1 hnil h0
    generalize l.length = n at *
    obtain ⟨m, rfl⟩ : ∃ m, n = m + 1 := ⟨n - 1, by omega⟩
    have h3 : (((m : Int) + 1) == 0) = false := by rw [beq_eq_false_iff_ne]; omega
    have h4 : ¬ ((m : Int) + 1 = 0) := by omega
    clear hpos
    go_wp2_with fail
    refine (HRT.out _ (by repeat (first | exact HBO.out | (refine Below.drew ?_) | (refine below_drewN' ?_ _) | (refine below_alloc' ?_ _) | (refine Below.setCell ?_ (by first | exact Nat.le_refl _ | (have := HBO.out.size; simp; omega) | (have := HBO.out.size; omega)) _)))).mono ?_
    rintro e w1 ⟨rfl, hw1⟩
    obtain rfl := hw1.symm
    clear hw1
    go_wp2_with fail
    refine (HIS.out _ (by repeat (first | exact HBO.out | (refine Below.drew ?_) | (refine below_drewN' ?_ _) | (refine below_alloc' ?_ _) | (refine Below.setCell ?_ (by first | exact Nat.le_refl _ | (have := HBO.out.size; simp; omega) | (have := HBO.out.size; omega)) _)))).mono ?_
    rintro e w1 ⟨rfl, hb9⟩
    have HF := Lib.hid (below_trans (by repeat (first | exact HBO.out | (refine Below.drew ?_) | (refine below_drewN' ?_ _) | (refine below_alloc' ?_ _) | (refine Below.setCell ?_ (by first | exact Nat.le_refl _ | (have := HBO.out.size; simp; omega) | (have := HBO.out.size; omega)) _))) hb9)
    clear hb9
    go_wp2_with fail
    go_ret
    exact ⟨rfl, HF.out⟩
end Go.Proofs.YtjokcagggmjgmaaGreat
/-! NdE -/
namespace Go.Proofs.YtjokcagggmjgmaaGreat
open Go.RowKit
set_option linter.unusedVariables false
set_option maxRecDepth 100000

theorem nodeInfo : ∃ j, Tryz.prog.info? 174 = some j ∧ j.size ≠ 0 := by
  have h : (Tryz.prog.info? 174).map (fun i => i.size) = some 8 := by kernel_rfl
  cases e : Tryz.prog.info? 174 with
  | none => rw [e] at h; cases h
  | some j =>
    rw [e] at h
    have h : j.size = 8 := by simpa using h
    exact ⟨j, rfl, by omega⟩
theorem nodeUnder : Tryz.prog.underlying 103 = some (.pointer 174) := by kernel_rfl
theorem node_same (w : World) (g : Nat) : (binOp .eql 103 (.pointer (some ⟨g, 0, none⟩)) (.pointer (some ⟨g, 0, none⟩))).run Tryz.prog w = .ok (.bool true) w := by
  obtain ⟨j, hj, _⟩ := nodeInfo
  exact run_eql_ptr_same w _ nodeUnder hj
theorem node_other {w : World} {g t k k' : Nat} {l l' : List En} (hg : Nd w k g l) (ht : Nd w k' t l') (hne : g ≠ t) : (binOp .eql 103 (.pointer (some ⟨g, 0, none⟩)) (.pointer (some ⟨t, 0, none⟩))).run Tryz.prog w = .ok (.bool false) w := by
  obtain ⟨v1, p1, q1⟩ := hg.hd
  obtain ⟨v2, p2, q2⟩ := ht.hd
  obtain ⟨c1, h1⟩ := q1.blk
  obtain ⟨c2, h2⟩ := q2.blk
  obtain ⟨j, hj, hsz⟩ := nodeInfo
  exact run_eql_ptr_other w nodeUnder hj hsz (by intro h; injection h with h; exact hne h) h1 h2
theorem root_eql {w : World} {k k' : Nat} {r r' : Option Nat} {l l' : List En} (h : RtN w k r l) (h' : RtN w k' r' l') : (binOp .eql 103 (pv r) (pv r')).run Tryz.prog w = .ok (.bool (decide (r = r'))) w := by
  cases r with
  | none =>
    cases r' with
    | none => rfl
    | some b => rfl
  | some a =>
    cases r' with
    | none => rfl
    | some b =>
      by_cases e : a = b
      · subst e
        rw [decide_eq_true rfl]
        exact node_same w a
      · rw [decide_eq_false (by intro h; injection h with h; exact e h)]
        exact node_other h h' e
end Go.Proofs.YtjokcagggmjgmaaGreat
/-! DifA -/
namespace Go.Proofs.YtjokcagggmjgmaaGreat
open Go.RowKit
set_option linter.unusedVariables false
set_option linter.unusedSimpArgs false
set_option maxRecDepth 100000

/-- what lies in blocks stays, but for one block and the rows of changes -/
structure Kp (B : Nat) (w w' : World) : Prop where
  size : w.heap.size ≤ w'.heap.size
  keep : ∀ b cur t fr, w.heap[b]? = some (.cells cur t fr) → b ≠ B → t ≠ 83 → w'.heap[b]? = some (.cells cur t fr)
theorem Kp.refl (B : Nat) (w : World) : Kp B w w := ⟨Nat.le_refl _, fun b cur t fr h _ _ => h⟩
theorem Kp.trans {B : Nat} {w w' w'' : World} (h : Kp B w w') (g : Kp B w' w'') : Kp B w w'' := ⟨Nat.le_trans h.size g.size, fun b cur t fr q1 q2 q3 => g.keep b cur t fr (h.keep b cur t fr q1 q2 q3) q2 q3⟩
theorem Kp.of {B : Nat} {w w' : World} (h : Below w.heap.size w w') : Kp B w w' := ⟨h.size, fun b cur t fr q1 _ _ => (h.block b (lt_of_block q1)).trans q1⟩
theorem Kp.ptNew {B : Nat} {w w' : World} (h : Kp B w w') (hB : ∃ vo, w.heap[B]? = some (.cells #[vo] 23 (0, 0))) {u : Value} {p : List Nat} (hu : PtNew w u p) : PtNew w' u p :=
  hu.keepBlock fun b cur fr hb => (h.keep b cur _ fr hb (fun e => by
    subst e
    obtain ⟨vo, h1⟩ := hB
    rw [hb] at h1
    injection h1 with h1
    injection h1 with _ h1 _
    revert h1; decide) (by decide)).trans hb.symm
theorem InvT.blkB {W w : World} {B : Nat} {o : List Ch} (h : InvT W B o w) : ∃ vo, w.heap[B]? = some (.cells #[vo] 23 (0, 0)) := let ⟨vo, h1, _⟩ := h; ⟨vo, h1⟩
theorem InvT.step {W w w' : World} {B : Nat} {o : List Ch} (h : InvT W B o w) (hb : Below w.heap.size w w') : InvT W B o w' := h.below (let ⟨_, h1⟩ := h.blkB; lt_of_block h1) hb
theorem Kp.ownD {B : Nat} {W w w' : World} (h : Kp B w w') (hB : ∃ vo, w.heap[B]? = some (.cells #[vo] 23 (0, 0))) {v : Value} {l : List En} (hv : OwnD (PtNew w) W w v l) : OwnD (PtNew w') W w' v l := by
  obtain ⟨cs, ⟨h1, h2⟩, h3⟩ := hv
  refine ⟨cs, ⟨h1, ?_⟩, h3.mono fun u p hu => h.ptNew hB hu⟩
  rcases h2 with h2 | ⟨g, cap, cur, q1, q2, q3, q4⟩
  · exact .inl h2
  · refine .inr ⟨g, cap, cur, q1, q2, h.keep g cur _ _ q3 (fun e => ?_) (by decide), q4⟩
    subst e
    obtain ⟨vo, e1⟩ := hB
    rw [q3] at e1
    injection e1 with e1
    injection e1 with _ e1 _
    revert e1; decide
/-- a step of the lockstep: so much has been told -/
def StP (W : World) (B : Nat) (d : List Ch) (w : World) (e : Ending) (w' : World) : Prop := e = .returned (.tuple #[]) ∧ InvT W B d w' ∧ Kp B w w'
abbrev SV (B : Nat) : Value := .agg #[.func (.func 77) #[] #[.pointer (some ⟨B, 0, none⟩)]]
set_option maxHeartbeats 1000000 in
theorem dTell_any (W w : World) (B : Nat) (d : List Ch) (c : Ch) (u : Value) (hW : W.heap.size ≤ B) (hi : InvT W B d w) (hu : PtNew w u c.p) (hol : d.length ≤ 10000) :
    Calls Tryz.prog 77 #[AgC u c, .pointer (some ⟨B, 0, none⟩)] w fun e w' => StP W B (d ++ [c]) w e w' := by
  obtain ⟨vo, hblk, hown, hbW⟩ := hi
  have kb := cell_of_one hblk
  have hlB := lt_of_block hblk
  have HI := Lib.hid (And.intro hblk (And.intro hown (And.intro hbW (And.intro hW (And.intro hol hu)))))
  obtain ⟨Au, cu, rfl, _⟩ := RdU.point hu.rd
  obtain ⟨Ao, no, co, rfl⟩ := hown.shape
  obtain ⟨p, had, has, old, new⟩ := c
  clear hblk hown hbW hW hol hu
  simp only [AgC]
  go_enter Tryz.func77, Tryz.ntmps77
  go_wp2_with ((at_builtin; refine wpList_append_C (Pt := PtNew w) rfl (.tmp 3) (.tmp 5) rfl W d ⟨p, had, has, old, new⟩ ?_ ?_ ?_ ?_ ?_ ?_))
  · exact fun u p h => h.rd.below (by repeat (first | exact Below.refl _ _ | (refine Below.drew ?_) | (refine below_drewN' ?_ _) | (refine below_alloc' ?_ _) | (refine Below.setCell ?_ (by first | exact Nat.le_refl _ | (simp; done) | (simp; omega)) _)))
  · exact HI.out.2.1.below (by repeat (first | exact Below.refl _ _ | (refine Below.drew ?_) | (refine below_drewN' ?_ _) | (refine below_alloc' ?_ _) | (refine Below.setCell ?_ (by first | exact Nat.le_refl _ | (simp; done) | (simp; omega)) _)))
  · exact ⟨_, _, _, rfl, by simp [go_sem], HI.out.2.2.2.2.2, by simp [go_sem], by simp [go_sem], by simp [go_sem], by simp [go_sem]⟩
  · have := HI.out.2.2.1.size; simp; omega
  · have := HI.out.2.2.2.2.1; omega
  intro v' w4 hown4 hg4
  obtain ⟨A4, n4, c4, rfl⟩ := hown4.shape
  have hbe : Below w.heap.size w ((w.alloc (.cells #[.slice Au p.length cu, .bool had, .bool has, .int .u64 (old : Nat), .int .u64 (new : Nat)] 83)).alloc (.cells #[.slice Au p.length cu, .bool had, .bool has, .int .u64 (old : Nat), .int .u64 (new : Nat)] 83)) := (by repeat (first | exact Below.refl _ _ | (refine Below.drew ?_) | (refine below_drewN' ?_ _) | (refine below_alloc' ?_ _) | (refine Below.setCell ?_ (by first | exact Nat.le_refl _ | (simp; done) | (simp; omega)) _)))
  obtain ⟨hb6, hI6⟩ := InvT.push HI.out.2.2.2.1 ((hbe.block B hlB).trans HI.out.1) ((HI.out.2.1.below hbe).mono fun u p h => h.below hbe) (HI.out.2.2.1.trans (hbe.mono HI.out.2.2.1.size)) (hown4.mono fun u p h => h.below hbe) hg4
  have hkp : Kp B w (w4.setCell ⟨B, 0, none⟩ (.slice A4 n4 c4)) := (Kp.of hbe).trans ⟨by have h9 := hg4.size; simp at h9 ⊢; omega, fun b cur t fr h1 h2 h3 => by
    have e1 := hg4.block b (lt_of_block h1) (fun e => by
      obtain ⟨_, cur', hc'⟩ := HI.out.2.1.block b e.symm
      have := (hbe.block b (lt_of_block hc')).trans hc'
      rw [this] at h1
      injection h1 with h1
      injection h1 with _ h1 _
      exact h3 h1.symm)
    rw [Below.heap_setCell _ _ _ _ h2, e1, h1]⟩
  have c6 := cell_of_one hb6
  have f6 := free_of_one hb6
  have hl6 := lt_of_block hb6
  have HI6 := Lib.hid (And.intro hI6 hkp)
  clear hown4 hg4 hb6 hI6 hbe kb hlB hkp
  go_wp2_with fail
  go_end0
  exact ⟨rfl, HI6.out.1, HI6.out.2⟩
theorem come_any (w : World) (p : List Nat) (x : Nat) (u : Value) (hu : RdU w u (pti p)) :
    Calls Tryz.prog 125 #[.agg #[u, .int .u64 (x : Nat)]] w fun e w' => e = .returned (AgC u (comeC ⟨p, x⟩)) ∧ Below w.heap.size w w' := by
  obtain ⟨A, c, rfl, _⟩ := RdU.point hu
  go_enter Tryz.func125, Tryz.ntmps125
  go_wp2_with fail
  refine bodyPost_ret (v := AgC (.slice A p.length c) (comeC ⟨p, x⟩)) (by simp [results, Tryz.results125, go_sem, AgC, comeC]) rfl ⟨rfl, (by repeat (first | exact Below.refl _ _ | (refine Below.drew ?_) | (refine below_drewN' ?_ _) | (refine below_alloc' ?_ _) | (refine Below.setCell ?_ (by first | exact Nat.le_refl _ | (simp; done) | (simp; omega)) _)))⟩
theorem gone_any (w : World) (p : List Nat) (x : Nat) (u : Value) (hu : RdU w u (pti p)) :
    Calls Tryz.prog 126 #[.agg #[u, .int .u64 (x : Nat)]] w fun e w' => e = .returned (AgC u (goneC ⟨p, x⟩)) ∧ Below w.heap.size w w' := by
  obtain ⟨A, c, rfl, _⟩ := RdU.point hu
  go_enter Tryz.func126, Tryz.ntmps126
  go_wp2_with fail
  refine bodyPost_ret (v := AgC (.slice A p.length c) (goneC ⟨p, x⟩)) (by simp [results, Tryz.results126, go_sem, AgC, goneC]) rfl ⟨rfl, (by repeat (first | exact Below.refl _ _ | (refine Below.drew ?_) | (refine below_drewN' ?_ _) | (refine below_alloc' ?_ _) | (refine Below.setCell ?_ (by first | exact Nat.le_refl _ | (simp; done) | (simp; omega)) _)))⟩

/-- how an entry is told -/
def AsOk (f : FuncId) (g : En → Ch) : Prop := (∀ args w, (callFunc f args).run Tryz.prog w = .ok (.enter f args) w) ∧ (∀ e, (g e).p = e.p) ∧
  ∀ (w : World) (p : List Nat) (x : Nat) (u : Value), RdU w u (pti p) → Calls Tryz.prog f #[.agg #[u, .int .u64 (x : Nat)]] w fun e w' => e = .returned (AgC u (g ⟨p, x⟩)) ∧ Below w.heap.size w w'
theorem as_come : AsOk 125 comeC := ⟨enters_func (Tryz.func125) (by kernel_rfl) (by kernel_rfl), fun _ => rfl, fun w p x u hu => come_any w p x u hu⟩
theorem as_gone : AsOk 126 goneC := ⟨enters_func (Tryz.func126) (by kernel_rfl) (by kernel_rfl), fun _ => rfl, fun w p x u hu => gone_any w p x u hu⟩
end Go.Proofs.YtjokcagggmjgmaaGreat
/-! DifB -/
namespace Go.Proofs.YtjokcagggmjgmaaGreat
open Go.RowKit
set_option linter.unusedVariables false
set_option linter.unusedSimpArgs false
set_option maxRecDepth 100000

set_option maxHeartbeats 4000000 in
theorem dAll_any (W w : World) (B k : Nat) (r : Option Nat) (l : List En) (d : List Ch) (f : FuncId) (g : En → Ch) (hf : AsOk f g) (hW : W.heap.size ≤ B) (hr : RtN W k r l) (k1 : 1 ≤ k) (k16 : k ≤ 16) (hi : InvT W B d w) (hN : d.length + l.length ≤ 10000) :
    Calls Tryz.prog 124 #[SV B, pv r, .func (.func f) #[] #[]] w fun e w' => StP W B (d ++ l.map g) w e w' := by
  have hent := hf.1
  have htent := enters_func (Tryz.func77) (by kernel_rfl) (by kernel_rfl)
  have HF := Lib.hid hf
  have HI := Lib.hid (And.intro hi (And.intro hN hW))
  have hbx : Below w.heap.size w (w.alloc (.cells #[.func (.func 77) #[] #[.pointer (some ⟨B, 0, none⟩)]] 122)) := (by repeat (first | exact Below.refl _ _ | (refine Below.drew ?_) | (refine below_drewN' ?_ _) | (refine below_alloc' ?_ _) | (refine Below.setCell ?_ (by first | exact Nat.le_refl _ | (simp; done) | (simp; omega)) _)))
  have HBX := Lib.hid hbx
  have HWA := Lib.hid (wall_any (w.alloc (.cells #[.func (.func 77) #[] #[.pointer (some ⟨B, 0, none⟩)]] 122)) k r l (hr.below (hi.bel.trans (hbx.mono hi.bel.size))) k1 k16 (by omega))
  obtain ⟨q, hq⟩ := pv_ex r
  rw [hq] at HWA ⊢
  clear hf hr k1 k16 hi hN hW hq hbx
  go_enter Tryz.func124, Tryz.ntmps124
  go_wp2_with fail
  refine HWA.out.mono ?_
  rintro e w2 ⟨v, rfl, hown, hb2⟩
  have HO := Lib.hid hown
  have HK2 := Lib.hid (show Kp B w w2 from (Kp.of HBX.out).trans (Kp.of hb2))
  have HS2 := Lib.hid (show w2.heap[w.heap.size]? = some (.cells #[.func (.func 77) #[] #[.pointer (some ⟨B, 0, none⟩)]] 122 (0, 0)) from (hb2.block _ (by simp)).trans (alloc_blk _ _))
  have HI2 := Lib.hid (InvT.step (InvT.step HI.out.1 HBX.out) hb2)
  obtain ⟨sb, hsb⟩ : ∃ sb, w.heap.size = sb := ⟨_, rfl⟩
  have HSB := Lib.hid (show sb ≠ B from fun e => by
    have := lt_of_block (Exists.choose_spec (InvT.blkB HI.out.1))
    omega)
  rw [hsb] at HS2 ⊢
  obtain ⟨A2, c2, rfl⟩ := hown.shape
  clear hown hb2 HWA hsb
  go_wp2_with fail
  go_loopw [7, 11] (fun _ iv wr => ∃ j : Nat, j ≤ l.length ∧ iv = .int .i64 (j : Nat) ∧ InvT W B (d ++ (l.take j).map g) wr ∧ Kp B w2 wr) (fun _ iv _ => l.length - (intOf iv).toNat)
  case atStart => exact ⟨0, Nat.zero_le _, rfl, by simpa using HI2.out, Kp.refl _ _⟩
  case round =>
    obtain ⟨j, hj, rfl, hiv, hkp⟩ := hrel
    have HR := Lib.hid (And.intro hiv hkp)
    by_cases hlt : j < l.length
    · have h3 : (j : Int) < l.length := by omega
      have h5 : (0 : Int) ≤ (j : Int) := by omega
      have HW := Lib.hid (show wrap64 ((j : Int) + 1) = ((j + 1 : Nat) : Int) by have := HI.out.2.1; unfold wrap64; omega)
      have hown := hkp.ownD HI2.out.blkB HO.out
      obtain ⟨gr, cap, cur, ev, q2, q3, q4, q5, q6, q7⟩ := hown.cells (fun h => by rw [h] at hlt; simp at hlt)
      simp only [Value.slice.injEq] at ev
      obtain ⟨rfl, _, rfl⟩ := ev
      obtain ⟨u, r1, r2, r3⟩ := q7 j hlt
      have k0 : wr.cell? ⟨gr, j * 2, none⟩ = some u := by simp [World.cell?, q3, r1]
      have k1 : wr.cell? ⟨gr, j * 2 + 1, none⟩ = some (.int .u64 (l[j].v : Nat)) := by simp [World.cell?, q3, r3]
      have hgl := World.block_lt_of_cell? wr _ k0
      have hsblk := hkp.keep sb _ _ _ HS2.out HSB.out (by decide)
      have ks := cell_of_one hsblk
      have hsl := lt_of_block hsblk
      have HTK := Lib.hid (show (l.take (j + 1)).map g = (l.take j).map g ++ [g l[j]] by rw [← List.take_append_getElem hlt, List.map_append]; rfl)
      have HP := Lib.hid (show PtNew wr u (g l[j]).p from by rw [HF.out.2.1]; exact r2)
      have HAS := Lib.hid (fun (W1 : World) (hb : Below wr.heap.size wr W1) => HF.out.2.2 W1 l[j].p l[j].v u (r2.rd.below hb))
      have hgx : g l[j] = g ⟨l[j].p, l[j].v⟩ := rfl
      rw [hgx] at HTK HP
      have HLN := Lib.hid (show (d ++ (l.take j).map g).length ≤ 10000 from by rw [List.length_append, List.length_map, List.length_take]; have := HI.out.2.1; omega)
      have hsn : ¬ sb = wr.heap.size := by omega
      obtain ⟨A0, cc, rfl, _⟩ := RdU.point r2.rd
      generalize l[j].p = xp at *
      generalize l[j].v = xv at *
      clear hiv hkp hown q2 q3 q4 q5 q6 q7 r1 r2 r3 hsblk hgx
      go_wp2_with fail
      refine wp_region_vals 5 [fun z9 _ => z9 = .pointer (some ⟨sb, 0, none⟩),
        fun z9 _ => z9 = .func (.func 77) #[] #[.pointer (some ⟨B, 0, none⟩)],
        fun z9 _ => z9 = .func (.func f) #[] #[],
        fun z9 _ => z9 = .agg #[.slice A0 xp.length cc, .int .u64 (xv : Nat)],
        fun z9 _ => z9 = AgC (.slice A0 xp.length cc) (g ⟨xp, xv⟩)]
        (by kernel_rfl) (by kernel_rfl) (by kernel_rfl) (by kernel_rfl) ?_ ?_ ?_
      · intro V hV v w1 w2 h hb
        simp only [List.mem_cons, List.not_mem_nil, or_false] at hV
        rcases hV with rfl | rfl | rfl | rfl | rfl
        all_goals first | exact h | (exact h)
      · intro iq oq hiq hoq
        match iq, hiq with
        | 0, _ =>
        obtain rfl := Option.some.inj hoq
        intro a1 w1 K hk hK
        have e3 : a1.tmps.getD 3 undef = .pointer (some ⟨sb, 0, none⟩) := hk.same 3 (by simp)
        simp [Region.wanted, Oper.wp, Act.eval, go_sem, e3, ks, k0, k1, hent, hgl, hsl, hsn]
        exact hK _ _ (Below.refl _ _) rfl
        | 1, _ =>
        obtain rfl := Option.some.inj hoq
        intro a1 w1 K hk hK
        have d15 : a1.tmps.getD 15 undef = .pointer (some ⟨sb, 0, none⟩) := hk.deps ⟨0, .data⟩ (by simp) rfl _ _ rfl rfl
        have c0 : w1.cell? ⟨sb, 0, none⟩ = some (.func (.func 77) #[] #[.pointer (some ⟨B, 0, none⟩)]) := Below.keeps hk.ext _ _ (by simp [go_sem, ks, k0, k1, hent, hgl, hsl, hsn])
        have c1 : w1.cell? ⟨wr.heap.size, 0, none⟩ = some (.slice A0 xp.length cc) := Below.keeps hk.ext _ _ (by simp [go_sem, ks, k0, k1, hent, hgl, hsl, hsn])
        have c2 : w1.cell? ⟨wr.heap.size, 1, none⟩ = some (.int .u64 (xv : Nat)) := Below.keeps hk.ext _ _ (by simp [go_sem, ks, k0, k1, hent, hgl, hsl, hsn])
        simp [Region.wanted, Oper.wp, Act.eval, go_sem, d15, c0, c1, c2, ks, k0, k1, hent, hgl, hsl, hsn]
        exact hK _ _ (Below.refl _ _) rfl
        | 2, _ =>
        obtain rfl := Option.some.inj hoq
        intro a1 w1 K hk hK
        have e2 : a1.tmps.getD 2 undef = .func (.func f) #[] #[] := hk.same 2 (by simp)
        simp [Region.wanted, Oper.wp, Act.eval, go_sem, e2, ks, k0, k1, hent, hgl, hsl, hsn]
        exact hK _ _ (Below.refl _ _) rfl
        | 3, _ =>
        obtain rfl := Option.some.inj hoq
        intro a1 w1 K hk hK
        have e7 : a1.tmps.getD 7 undef = .pointer (some ⟨wr.heap.size, 0, none⟩) := hk.same 7 (by simp)
        have c0 : w1.cell? ⟨sb, 0, none⟩ = some (.func (.func 77) #[] #[.pointer (some ⟨B, 0, none⟩)]) := Below.keeps hk.ext _ _ (by simp [go_sem, ks, k0, k1, hent, hgl, hsl, hsn])
        have c1 : w1.cell? ⟨wr.heap.size, 0, none⟩ = some (.slice A0 xp.length cc) := Below.keeps hk.ext _ _ (by simp [go_sem, ks, k0, k1, hent, hgl, hsl, hsn])
        have c2 : w1.cell? ⟨wr.heap.size, 1, none⟩ = some (.int .u64 (xv : Nat)) := Below.keeps hk.ext _ _ (by simp [go_sem, ks, k0, k1, hent, hgl, hsl, hsn])
        simp [Region.wanted, Oper.wp, Act.eval, go_sem, e7, c0, c1, c2, ks, k0, k1, hent, hgl, hsl, hsn]
        exact hK _ _ (Below.refl _ _) rfl
        | 4, _ =>
        obtain rfl := Option.some.inj hoq
        intro a1 w1 K hk hK
        have d17 : a1.tmps.getD 17 undef = .func (.func f) #[] #[] := hk.deps ⟨2, .data⟩ (by simp) rfl _ _ rfl rfl
        have d18 : a1.tmps.getD 18 undef = .agg #[.slice A0 xp.length cc, .int .u64 (xv : Nat)] := hk.deps ⟨3, .data⟩ (by simp) rfl _ _ rfl rfl
        simp [Region.wanted, Oper.wp, Act.eval, go_sem, d17, d18, ks, k0, k1, hent, hgl, hsl, hsn]
        refine (HAS.out _ (below_trans (by repeat (first | exact Below.refl _ _ | (refine Below.drew ?_) | (refine below_drewN' ?_ _) | (refine below_alloc' ?_ _) | (refine Below.setCell ?_ (by first | exact Nat.le_refl _ | (simp; done) | (simp; omega)) _))) hk.ext)).mono ?_
        rintro e w9 ⟨rfl, hb9⟩
        exact hK _ _ hb9 rfl
      · intro vs w3 hl hb3 hv
        match vs, hl with
        | [v0, v1, v2, v3, v4], _ =>
        obtain rfl : v0 = .pointer (some ⟨sb, 0, none⟩) := hv 0 (by omega)
        obtain rfl : v1 = .func (.func 77) #[] #[.pointer (some ⟨B, 0, none⟩)] := hv 1 (by omega)
        obtain rfl : v2 = .func (.func f) #[] #[] := hv 2 (by omega)
        obtain rfl : v3 = .agg #[.slice A0 xp.length cc, .int .u64 (xv : Nat)] := hv 3 (by omega)
        obtain rfl : v4 = AgC (.slice A0 xp.length cc) (g ⟨xp, xv⟩) := hv 4 (by omega)
        clear hv
        simp only [putAll, List.take_succ_cons, List.take_zero, List.drop_succ_cons, List.drop_zero, Act.put, List.setIfInBounds_toArray, List.set_cons_succ, List.set_cons_zero]
        have hb4 : Below wr.heap.size wr w3 := below_trans (by repeat (first | exact Below.refl _ _ | (refine Below.drew ?_) | (refine below_drewN' ?_ _) | (refine below_alloc' ?_ _) | (refine Below.setCell ?_ (by first | exact Nat.le_refl _ | (simp; done) | (simp; omega)) _))) hb3
        have HD := Lib.hid (dTell_any W w3 B (d ++ (l.take j).map g) (g ⟨xp, xv⟩) _ HI.out.2.2 (HR.out.1.step hb4) (HP.out.below hb4) HLN.out)
        have HK4 := Lib.hid (HR.out.2.trans (Kp.of hb4))
        obtain ⟨gp, gh, gs, go, gn, hgc⟩ : ∃ a b c d e, g ⟨xp, xv⟩ = ⟨a, b, c, d, e⟩ := ⟨_, _, _, _, _, rfl⟩
        rw [hgc] at HD HTK ⊢
        simp only [AgC] at HD ⊢
        clear hb3 hb4 hgc k0 k1 ks hgl hsl
        go_wp2_with fail
        refine HD.out.mono ?_
        rintro e w5 ⟨rfl, hi5, hk5⟩
        have HF5 := Lib.hid (And.intro hi5 (HK4.out.trans hk5))
        clear hi5 hk5
        go_wp2_with fail
        go_roundw
        case rel => exact ⟨j + 1, by omega, (by first | rw [HW.out] | rfl | simp), by rw [HTK.out, ← List.append_assoc]; exact HF5.out.1, HF5.out.2⟩
        case measure => (first | (rw [intOf_of' HW.out, intOf_of' rfl]; omega) | (simp [intOf]; omega) | (simp [intOf] <;> omega))
    · have h3 : ¬ (j : Int) < (l.length : Int) := by omega
      have e : l.take j = l := List.take_of_length_le (by omega)
      rw [e] at HR
      clear hiv hkp e
      go_wp2_with fail
      go_end0
      exact ⟨rfl, HR.out.1, HK2.out.trans HR.out.2⟩
end Go.Proofs.YtjokcagggmjgmaaGreat
/-! DifQ -/
namespace Go.Proofs.YtjokcagggmjgmaaGreat
open Go.RowKit
set_option linter.unusedVariables false

theorem cut_cut2 {k : Nat} {p : List Nat} (ho : ∀ c ∈ p, c < 2 ^ 64) {m n : Nat} (h : m ≤ n) : Zb.cutN (Zb.cutN p m) n = Zb.cutN p n :=
  (Zb.cut_agree (Zb.cutN_length p m) (Zb.cutN_ok ho m) ho n).2 ((Zb.agree_cut p m).mono h)
/-- all lie below one address of one node -/
structure Below1 (k n : Nat) (pre : List Nat) (a : Nat) (l : List En) : Prop where
  et : Et k l
  n64 : n < 64
  pre : ∀ e ∈ l, Zb.cutN e.p (n + 1) = pre
  adr : ∀ e ∈ l, Zb.addr e.p n = a
theorem Below1.nil (k n : Nat) (pre : List Nat) (a : Nat) (hn : n < 64) : Below1 k n pre a [] := ⟨Et.nil k, hn, fun e he => (by cases he), fun e he => (by cases he)⟩
theorem Below1.ahead {k n a b : Nat} {pre : List Nat} {l m : List En} (h : Below1 k n pre a l) (g : Below1 k n pre b m) (hab : a < b) : Ahead l m := fun x hx y hy => by
  refine pkey_lt (by rw [h.et.len x hx, g.et.len y hy]) h.n64 ?_ (by rw [h.adr x hx, g.adr y hy]; exact hab)
  exact (Zb.cut_agree (by rw [h.et.len x hx, g.et.len y hy]) (h.et.ok x hx) (g.et.ok y hy) _).1 (by rw [h.pre x hx, g.pre y hy])
theorem Kd.below1 {k n : Nat} {pre : List Nat} {ks : List (Nat × List En)} (h : Kd k n pre ks) {x : Nat × List En} (hx : x ∈ ks) : Below1 k n pre x.1 x.2 := ⟨h.et x hx, h.n64, h.pre x hx, h.adr x hx⟩
theorem cat_ahead {A : List (Nat × List En)} {m : List En} (h : ∀ x ∈ A, Ahead x.2 m) : Ahead (cat A) m := fun e he f hf => by
  obtain ⟨x, hx, he⟩ := mem_cat.1 he
  exact h x hx e he f hf
theorem ahead_cat {A : List (Nat × List En)} {l : List En} (h : ∀ x ∈ A, Ahead l x.2) : Ahead l (cat A) := fun e he f hf => by
  obtain ⟨x, hx, hf⟩ := mem_cat.1 hf
  exact h x hx e he f hf
/-- kids, but two at least are not asked for -/
structure Kz (k n : Nat) (pre : List Nat) (ks : List (Nat × List En)) : Prop where
  asc : Od.Asc ka ks
  bel : ∀ x ∈ ks, Below1 k n pre x.1 x.2
theorem Kd.kz {k n : Nat} {pre : List Nat} {ks : List (Nat × List En)} (h : Kd k n pre ks) : Kz k n pre ks := ⟨h.asc, fun x hx => h.below1 hx⟩
theorem Kz.take {k n : Nat} {pre : List Nat} {ks : List (Nat × List En)} (h : Kz k n pre ks) (i : Nat) : Kz k n pre (ks.take i) := ⟨List.Pairwise.sublist (List.take_sublist i ks) h.asc, fun x hx => h.bel x (List.mem_of_mem_take hx)⟩
theorem Kz.tail {k n : Nat} {pre : List Nat} {x : Nat × List En} {ks : List (Nat × List En)} (h : Kz k n pre (x :: ks)) : Kz k n pre ks := ⟨h.asc.tail, fun y hy => h.bel y (by simp [hy])⟩
theorem Kz.et {k n : Nat} {pre : List Nat} {ks : List (Nat × List En)} (h : Kz k n pre ks) : Et k (cat ks) := by
  induction ks with
  | nil => exact Et.nil k
  | cons x ks ih =>
    have e1 : cat (x :: ks) = x.2 ++ cat ks := by unfold cat; rw [List.flatMap_cons]
    rw [e1]
    exact (h.bel x (by simp)).et.app (ih h.tail) (ahead_cat fun y hy => (h.bel x (by simp)).ahead (h.bel y (by simp [hy])) (h.asc.head y hy))
/-- the first i kids lie ahead of what is below an address that none of them reaches -/
theorem Kz.take_ahead {k n a : Nat} {pre : List Nat} {ks : List (Nat × List En)} (h : Kz k n pre ks) (i : Nat) {m : List En} (hm : Below1 k n pre a m) (hl : ∀ j (hj : j < ks.length), j < i → ks[j].1 < a) : Ahead (cat (ks.take i)) m :=
  cat_ahead fun x hx => by
    obtain ⟨j, hj, rfl⟩ := List.mem_iff_getElem.1 hx
    rw [List.length_take] at hj
    rw [List.getElem_take]
    exact (h.bel _ (List.getElem_mem (show j < ks.length by omega))).ahead hm (hl j (by omega) (by omega))
theorem Kz.lt {k n : Nat} {pre : List Nat} {ks : List (Nat × List En)} (h : Kz k n pre ks) {i j : Nat} (hij : i < j) (hj : j < ks.length) : (ks[i]'(by omega)).1 < ks[j].1 := List.pairwise_iff_getElem.1 h.asc i j (by omega) hj hij
/-- which of two comes first is seen by their prefixes -/
theorem apart_order {k n : Nat} {p q p' q' : List Nat} (l1 : p.length = k) (l2 : q.length = k) (l3 : p'.length = k) (l4 : q'.length = k) (o1 : ∀ c ∈ p, c < 2 ^ 64) (o2 : ∀ c ∈ q, c < 2 ^ 64) (o3 : ∀ c ∈ p', c < 2 ^ 64) (o4 : ∀ c ∈ q', c < 2 ^ 64)
    (hp : Zb.cutN p n = Zb.cutN p' n) (hq : Zb.cutN q n = Zb.cutN q' n) (hne : Zb.cutN p n ≠ Zb.cutN q n) : (pkey p < pkey q ↔ pkey p' < pkey q') ∧ (pkey p < pkey q ∨ pkey q < pkey p) := by
  have a1 : Zb.agree p p' n := (Zb.cut_agree (by rw [l1, l3]) o1 o3 n).1 hp
  have a2 : Zb.agree q q' n := (Zb.cut_agree (by rw [l2, l4]) o2 o4 n).1 hq
  have hm0 : ¬ Zb.part p q 64 < n := fun h => hne ((Zb.cut_agree (by rw [l1, l2]) o1 o2 n).2 ((Zb.part_agree p q n).1 h))
  have hm1 := Zb.part_lt p q 64
  obtain ⟨m, hm⟩ : ∃ m : Nat, Zb.part p q 64 = m := ⟨(Zb.part p q 64).toNat, by omega⟩
  have hnm : n ≤ m := by omega
  have hm64 : m < 64 := by omega
  have a3 : Zb.agree p q (m + 1) := (Zb.part_agree p q (m + 1)).1 (by omega)
  have hd : Zb.addr p m ≠ Zb.addr q m := fun h => by
    have : Zb.agree p q m := fun j h1 h2 => by
      by_cases e : j = m
      · subst e; exact h
      · exact a3 j (by omega) h2
    have := (Zb.part_agree p q m).2 this
    omega
  have e1 : Zb.addr p' m = Zb.addr p m := (a1 m hnm hm64).symm
  have e2 : Zb.addr q' m = Zb.addr q m := (a2 m hnm hm64).symm
  have sy : ∀ {x y : List Nat} {j : Nat}, Zb.agree x y j → Zb.agree y x j := fun h i h1 h2 => (h i h1 h2).symm
  have a4 : Zb.agree p' q' (m + 1) := ((sy a1).mono (by omega)).trans (a3.trans (a2.mono (by omega)))
  rcases Nat.lt_or_gt_of_ne hd with h | h
  · have x1 := pkey_lt (by rw [l1, l2]) hm64 a3 h
    have x2 := pkey_lt (p := p') (q := q') (by rw [l3, l4]) hm64 a4 (by rw [e1, e2]; exact h)
    exact ⟨⟨fun _ => x2, fun _ => x1⟩, .inl x1⟩
  · have x1 := pkey_lt (p := q) (q := p) (by rw [l1, l2]) hm64 (sy a3) h
    have x2 := pkey_lt (p := q') (q := p') (by rw [l3, l4]) hm64 (sy a4) (by rw [e1, e2]; exact h)
    exact ⟨⟨fun h => by omega, fun h => by omega⟩, .inr x1⟩
end Go.Proofs.YtjokcagggmjgmaaGreat
/-! DifC -/
namespace Go.Proofs.YtjokcagggmjgmaaGreat
open Go.RowKit
set_option linter.unusedVariables false
set_option linter.unusedSimpArgs false
set_option maxRecDepth 100000

def thL (th : Bool) (lo : List En) : List En := if th then lo else []
theorem thL_true (lo : List En) : thL true lo = lo := rfl
theorem thL_false (lo : List En) : thL false lo = [] := rfl
/-- the changes, seen from one side -/
structure SideOk (k : Nat) (g : En → Ch) (DS : List En → List En → List Ch) : Prop where
  app : ∀ {a1 a2 b1 b2 : List En}, Et k a1 → Et k a2 → Et k b1 → Et k b2 → Ahead a1 a2 → Ahead a1 b2 → Ahead b1 a2 → Ahead b1 b2 → DS (a1 ++ a2) (b1 ++ b2) = DS a1 b1 ++ DS a2 b2
  one : ∀ {a : List En}, Et k a → DS a [] = a.map g
  len : ∀ {a b : List En}, Et k a → Et k b → (DS a b).length ≤ a.length + b.length
theorem side_gone (k : Nat) : SideOk k goneC changesL := ⟨fun h1 h2 h3 h4 => chg_append h1 h2 h3 h4, fun h => chg_gone h, fun h1 h2 => changes_len h1 h2⟩
theorem side_come (k : Nat) : SideOk k comeC (fun a b => changesL b a) := ⟨fun h1 h2 h3 h4 x1 x2 x3 x4 => chg_append h3 h4 h1 h2 x4 x3 x2 x1, fun h => chg_come h, fun h1 h2 => by have := changes_len h2 h1; omega⟩
set_option maxHeartbeats 8000000 in
theorem beside_any (W w : World) (B k n b s a : Nat) (pre : List Nat) (ks : List (Nat × Nat × List En)) (lo : List En) (d : List Ch) (f fi : FuncId) (g : En → Ch) (capI : Array Value) (DS : List En → List En → List Ch)
    (hf : AsOk f g) (hDS : SideOk k g DS) (hent : ∀ args w, (callFunc fi args).run Tryz.prog w = .ok (.enter fi args) w) (hW : W.heap.size ≤ B)
    (c3 : W.cell? ⟨b, 3, none⟩ = some (.pointer (some ⟨s, 0, none⟩))) (hs : SlR W s k (ks.map kb)) (hk : Kd k n pre (ks.map kl)) (hn : ∀ x ∈ ks, Nd W k x.2.1 x.2.2) (k1 : 1 ≤ k) (k16 : k ≤ 16)
    (hlo : Below1 k n pre a lo) (ha : a < 65536) (hi : InvT W B d w) (hN : d.length + (cat (ks.map kl)).length + lo.length ≤ 10000)
    (HIN : ∀ (r : Option Nat) (lx : List En) (w' : World) (d' : List Ch), RtN W k r lx → lx.length < (cat (ks.map kl)).length → InvT W B d' w' → Kp B w w' → d'.length + lx.length + lo.length ≤ 10000 → Calls Tryz.prog fi (#[pv r] ++ capI) w' fun e w'' => StP W B (d' ++ DS lx lo) w' e w'') :
    Calls Tryz.prog 129 #[SV B, .pointer (some ⟨b, 0, none⟩), .func (.func f) #[] #[], .int .i64 (a : Nat), .func (.func fi) #[] capI] w fun e w' => StP W B (d ++ DS (cat (ks.map kl)) lo) w e w' := by
  have hkz := hk.kz
  have HFK := Lib.hid (FromK.of c3 hs)
  have HKID := Lib.hid (fun w' (hb : Below W.heap.size W w') => nkid_any w' b s k (ks.map kb) (a : Nat) (Below.keeps hb _ _ c3) (hs.below hb))
  have HRT := Lib.hid (look_kid_rt (a := a) hn)
  have HINNER := Lib.hid HIN
  have HD := Lib.hid (And.intro hi (And.intro hN (And.intro ha hW)))
  have HKD := Lib.hid (And.intro hk (And.intro hkz (And.intro hlo hDS)))
  have HALLx := Lib.hid (fun (x : Nat × Nat × List En) (hx : x ∈ ks) (w' : World) (d' : List Ch) (hi' : InvT W B d' w') (hl : d'.length + x.2.2.length ≤ 10000) => dAll_any W w' B k (some x.2.1) x.2.2 d' f g hf hW (hn x hx) k1 k16 hi' hl)
  have hbx : Below w.heap.size w (w.alloc (.cells #[.func (.func 77) #[] #[.pointer (some ⟨B, 0, none⟩)]] 122)) := (by repeat (first | exact Below.refl _ _ | (refine Below.drew ?_) | (refine below_drewN' ?_ _) | (refine below_alloc' ?_ _) | (refine Below.setCell ?_ (by first | exact Nat.le_refl _ | (simp; done) | (simp; omega)) _)))
  obtain ⟨sb, hsb⟩ : ∃ sb, w.heap.size = sb := ⟨_, rfl⟩
  have HSB := Lib.hid (show sb ≠ B from fun e => by
    have := lt_of_block (Exists.choose_spec (InvT.blkB hi))
    omega)
  have HS00 := Lib.hid (alloc_blk w (.cells #[.func (.func 77) #[] #[.pointer (some ⟨B, 0, none⟩)]] 122))
  have HI0 := Lib.hid (hi.step hbx)
  have HK0 := Lib.hid (show Kp B w _ from Kp.of hbx)
  clear hf hDS hn hlo hi hN HIN hk hkz hs ha hW k1 k16 hbx
  go_enter Tryz.func129, Tryz.ntmps129
  go_wp2_with fail
  rw [hsb] at HS00
  clear hsb
  generalize w.alloc (.cells #[.func (.func 77) #[] #[.pointer (some ⟨B, 0, none⟩)]] 122) = w1 at *
  have HS0 := Lib.hid HS00.out
  refine (HFK.out.zero _ HI0.out.bel).mono ?_
  rintro e w2 ⟨rfl, hb2⟩
  have HI2 := Lib.hid (And.intro (HI0.out.step hb2) (Kp.of (B := B) hb2))
  clear hb2
  go_wp2_with fail
  have HS2 := Lib.hid (HI2.out.2.keep sb _ _ _ HS0.out HSB.out (by decide))
  clear HS00 HS0
  go_loopw [10, 11, 12] (fun tv av kv wr => ∃ (j : Nat) (th : Bool), j ≤ ks.length ∧ tv = .bool th ∧ av = frA (frO ks j) ∧ kv = frK (frO ks j) ∧ InvT W B (d ++ DS (cat ((ks.map kl).take j)) (thL th lo)) wr ∧ Kp B w2 wr ∧ (th = false → ∀ i (hi : i < ks.length), i < j → ks[i].1 < a) ∧ (th = true → ∀ i (hi : i < ks.length), j ≤ i → a < ks[i].1)) (fun _ av kv _ => kmu av kv)
  case atStart => exact ⟨0, false, Nat.zero_le _, rfl, rfl, rfl, by
    have e : DS (cat ((ks.map kl).take 0)) (thL false lo) = [] := by
      rw [thL_false]
      exact (HKD.out.2.2.2.one (Et.nil k)).trans rfl
    rw [e, List.append_nil]
    exact HI2.out.1, Kp.refl _ _, (fun _ i _ h => by omega), (fun h => by cases h)⟩
  case round =>
    obtain ⟨j, th, hj, rfl, rfl, rfl, hiv, hkp, hlt1, hlt2⟩ := hrel
    have HR := Lib.hid (And.intro hiv hkp)
    have hsblk := hkp.keep sb _ _ _ HS2.out HSB.out (by decide)
    have ksx := cell_of_one hsblk
    have hslx := lt_of_block hsblk
    clear hsblk
    by_cases hlt : j < ks.length
    · have hlk : j < (ks.map kl).length := by rw [List.length_map]; exact hlt
      have ekl : (ks.map kl)[j] = kl ks[j] := List.getElem_map ..
      have hcat := cat_take_succ (ks.map kl) j hlk
      have hroom := cat_room (ks.map kl) j hlk
      rw [ekl] at hcat hroom
      have e1 : (kl ks[j]).1 = ks[j].1 := rfl
      have e2 : (kl ks[j]).2 = ks[j].2.2 := rfl
      have hbx := HKD.out.2.1.bel _ (List.getElem_mem hlk)
      rw [ekl] at hbx
      rw [e1, e2] at hbx
      rw [e2] at hcat hroom
      have htk := (HKD.out.2.1.take j).et
      have htx := HKD.out.2.1.take_ahead j hbx (fun i hi hij => by have := HKD.out.2.1.lt hij hlk; rw [ekl] at this; exact this)
      have HNX := Lib.hid (HFK.out.next j hlt)
      have HMU := Lib.hid (HFK.out.mu j hlt)
      have HALL := Lib.hid (HALLx.out ks[j] (List.getElem_mem hlt))
      have hla := HFK.out.lt j hlt
      have hkl1 : kidOf ks[j].1 (ks.map kl) = ks[j].2.2 := look_kid HKD.out.1.asc (x := kl ks[j]) (List.mem_map_of_mem (List.getElem_mem hlt))
      have HNL := Lib.hid (show ks[j].2.2.length < (cat (ks.map kl)).length from by have := HKD.out.1.kid_lt (x := kl ks[j]) (List.mem_map_of_mem (List.getElem_mem hlt)); exact this)
      have hasc : ∀ i (hi : i < ks.length), j < i → ks[j].1 < ks[i].1 := fun i hi hij => by
        have := HKD.out.2.1.lt hij (show i < (ks.map kl).length by rw [List.length_map]; exact hi)
        rw [List.getElem_map, List.getElem_map] at this
        exact this
      have hasc2 : ∀ i (hi : i < ks.length), i < j → ks[i].1 < ks[j].1 := fun i hi hij => by
        have := HKD.out.2.1.lt hij hlk
        rw [List.getElem_map, List.getElem_map] at this
        exact this
      rw [frO_some hlt] at HMU ⊢
      obtain ⟨A, hA⟩ : ∃ A, ks[j].1 = A := ⟨_, rfl⟩
      obtain ⟨Bk, hB⟩ : ∃ Bk, ks[j].2.1 = Bk := ⟨_, rfl⟩
      obtain ⟨lx, hX⟩ : ∃ lx, ks[j].2.2 = lx := ⟨_, rfl⟩
      rw [hA] at HNX HMU hla hbx hkl1 ⊢
      rw [hB] at HALL HMU ⊢
      rw [hX] at HALL hcat hroom hbx htx hkl1 HNL
      simp only [hA] at hasc hasc2
      have HW := Lib.hid (show wrap64 ((A : Int) + 1) = (A : Int) + 1 by unfold wrap64; omega)
      rw [frA_some, frK_some]
      obtain ⟨D, hD⟩ : ∃ D, cat ((ks.map kl).take j) = D := ⟨_, rfl⟩
      rw [hD] at HR hcat htk htx hroom
      have hDN := HD.out.2.1
      have hloe := HKD.out.2.2.1.et
      have hds := HKD.out.2.2.2
      have hlD1 := hds.len htk (Et.nil k)
      have hlD2 := hds.len htk hloe
      rw [List.length_nil] at hlD1
      obtain ⟨Dn, hDn⟩ : ∃ n, D.length = n := ⟨_, rfl⟩
      rw [hDn] at hroom hlD1 hlD2
      cases th with
      | false =>
        have hr1 := hlt1 rfl
        rw [thL_false] at HR
        have LEN7 := Lib.hid (show (d ++ DS D []).length + lx.length ≤ 10000 from by rw [List.length_append]; omega)
        rcases Nat.lt_trichotomy A a with hc | hc | hc
        · have g1 : ¬ (A : Int) ≥ (a : Int) := by omega
          have g2 : ((A : Int) != (a : Int)) = true := by simp; omega
          have g3 : ¬ (A : Int) = (a : Int) := by omega
          have HEQ := Lib.hid (show d ++ DS (cat ((ks.map kl).take (j + 1))) (thL false lo) = d ++ DS D [] ++ lx.map g from by
            rw [hcat, thL_false]
            have := hds.app htk hbx.et (Et.nil k) (Et.nil k) htx (Ahead.nil_r _) (Ahead.nil_l _) (Ahead.nil_l _)
            rw [List.append_nil, hds.one hbx.et] at this
            rw [this, List.append_assoc])
          have HL1 := Lib.hid (show ∀ i (hi : i < ks.length), i < j + 1 → ks[i].1 < a from fun i hi hij => by
            by_cases e : i = j
            · subst e; rw [hA]; exact hc
            · exact hr1 i hi (by omega))
          clear hiv hkp hlt1 hlt2 hlk ekl hcat hroom e1 e2 hbx htk htx hla hkl1 hasc hasc2 hA hB hX hD hDN hloe hds hlD1 hlD2 hDn hr1 hc
          go_wp2_with fail
          refine (HALL.out _ _ (HR.out.1) LEN7.out).mono ?_
          rintro e w7 ⟨rfl, hi7, hk7⟩
          have HF7 := Lib.hid (And.intro hi7 ((HR.out.2).trans hk7))
          clear hi7 hk7
          go_wp2_with fail
          rw [HW.out]
          refine (HNX.out _ (InvT.bel (HF7.out.1))).mono ?_
          rintro e w9 ⟨rfl, hb9⟩
          have HB9 := Lib.hid hb9
          clear hb9
          go_wp2_with fail
          go_roundw
          case rel => exact ⟨j + 1, false, by omega, rfl, rfl, rfl, by rw [HEQ.out]; exact InvT.step (HF7.out.1) HB9.out, (HF7.out.2).trans (Kp.of HB9.out), fun _ => HL1.out, (fun h => by cases h)⟩
          case measure => exact HMU.out
        · have hc' := hc.symm
          subst hc'
          have g1 : (a : Int) ≥ (a : Int) := by omega
          have g2 : ((a : Int) != (a : Int)) = false := by simp
          have HKL := Lib.hid (show (kidOf a (ks.map kl)).length < (cat (ks.map kl)).length from by rw [hkl1]; exact HNL.out)
          have LEN5 := Lib.hid (show (d ++ DS D []).length + (kidOf a (ks.map kl)).length + lo.length ≤ 10000 from by rw [List.length_append, hkl1]; omega)
          have HEQ := Lib.hid (show d ++ DS (cat ((ks.map kl).take (j + 1))) (thL true lo) = d ++ DS D [] ++ DS (kidOf a (ks.map kl)) lo from by
            rw [hcat, thL_true, hkl1]
            have := hds.app htk hbx.et (Et.nil k) hloe htx (by exact hD ▸ HKD.out.2.1.take_ahead j HKD.out.2.2.1 (fun i hi hij => by have := hasc2 i (by rw [List.length_map] at hi; exact hi) hij; rw [List.getElem_map]; exact this)) (Ahead.nil_l _) (Ahead.nil_l _)
            rw [List.nil_append] at this
            rw [this, List.append_assoc])
          have HL2 := Lib.hid (show ∀ i (hi : i < ks.length), j + 1 ≤ i → a < ks[i].1 from fun i hi hij => by have := hasc i hi (by omega); omega)
          clear hiv hkp hlt1 hlt2 hlk ekl hcat hroom e1 e2 hbx htk htx hla hkl1 hasc hasc2 hA hB hX hD hDN hloe hds hlD1 hlD2 hDn hr1 hc
          go_wp2_with fail
          refine (HKID.out _ (InvT.bel HR.out.1)).mono ?_
          rintro e w5 ⟨rfl, hb5⟩
          have HB5 := Lib.hid hb5
          clear hb5
          obtain ⟨q5, hq5⟩ := pv_ex (lookI (ks.map kb) (a : Nat))
          have HIN5 := Lib.hid (HINNER.out _ _ w5 _ HRT.out HKL.out (HR.out.1.step HB5.out) ((HK0.out.trans HI2.out.2).trans (HR.out.2.trans (Kp.of HB5.out))) LEN5.out)
          rw [hq5] at HIN5 ⊢
          clear hq5
          go_wp2_with fail
          refine HIN5.out.mono ?_
          rintro e w6 ⟨rfl, hi6, hk6⟩
          have HR6 := Lib.hid (And.intro hi6 ((HR.out.2.trans (Kp.of HB5.out)).trans hk6))
          clear hi6 hk6
          have hsblk6 := HR6.out.2.keep sb _ _ _ HS2.out HSB.out (by decide)
          have ks6 := cell_of_one hsblk6
          have hsl6 := lt_of_block hsblk6
          clear hsblk6
          go_wp2_with fail
          rw [HW.out]
          refine (HNX.out _ (InvT.bel (HR6.out.1))).mono ?_
          rintro e w9 ⟨rfl, hb9⟩
          have HB9 := Lib.hid hb9
          clear hb9
          go_wp2_with fail
          go_roundw
          case rel => exact ⟨j + 1, true, by omega, rfl, rfl, rfl, by rw [HEQ.out]; exact InvT.step (HR6.out.1) HB9.out, (HR6.out.2).trans (Kp.of HB9.out), (fun h => by cases h), fun _ => HL2.out⟩
          case measure => exact HMU.out
        · have g1 : (A : Int) ≥ (a : Int) := by omega
          have g2 : ((A : Int) != (a : Int)) = true := by simp; omega
          have g3 : ¬ (A : Int) = (a : Int) := by omega
          have hk0 : kidOf a (ks.map kl) = [] := kidOf_none fun x hx => by
            obtain ⟨y, hy, rfl⟩ := List.mem_map.1 hx
            obtain ⟨i, hi, rfl⟩ := List.mem_iff_getElem.1 hy
            show ks[i].1 ≠ a
            rcases Nat.lt_trichotomy i j with h | h | h
            · have := hr1 i hi h; omega
            · subst h; omega
            · have := hasc i hi h; omega
          have HKL := Lib.hid (show (kidOf a (ks.map kl)).length < (cat (ks.map kl)).length from by rw [hk0]; have := HNL.out; simp; omega)
          have LEN5 := Lib.hid (show (d ++ DS D []).length + (kidOf a (ks.map kl)).length + lo.length ≤ 10000 from by rw [List.length_append, hk0, List.length_nil]; omega)
          have hlo2 := hds.len (Et.nil k) hloe
          have LEN8 := Lib.hid (show (d ++ DS D [] ++ DS (kidOf a (ks.map kl)) lo).length + lx.length ≤ 10000 from by rw [List.length_append, List.length_append, hk0]; simp only [List.length_nil] at hlo2; omega)
          have HEQ := Lib.hid (show d ++ DS (cat ((ks.map kl).take (j + 1))) (thL true lo) = d ++ DS D [] ++ DS (kidOf a (ks.map kl)) lo ++ lx.map g from by
            rw [hcat, thL_true, hk0]
            have hal := HKD.out.2.2.1.ahead hbx hc
            have hDl : Ahead D lo := hD ▸ HKD.out.2.1.take_ahead j HKD.out.2.2.1 (fun i hi hij => by have := hr1 i (by rw [List.length_map] at hi; exact hi) hij; rw [List.getElem_map]; exact this)
            have t1 := hds.app htk hbx.et (Et.nil k) hloe htx hDl (Ahead.nil_l _) (Ahead.nil_l _)
            have t2 := hds.app (Et.nil k) hbx.et hloe (Et.nil k) (Ahead.nil_l _) (Ahead.nil_l _) hal (Ahead.nil_r _)
            rw [List.nil_append] at t1
            rw [List.nil_append, List.append_nil, hds.one hbx.et] at t2
            rw [t1, t2]
            simp only [List.append_assoc])
          have HL2 := Lib.hid (show ∀ i (hi : i < ks.length), j + 1 ≤ i → a < ks[i].1 from fun i hi hij => by have := hasc i hi (by omega); omega)
          clear LEN7
          have LEN7 := Lib.hid LEN8.out
          clear hiv hkp hlt1 hlt2 hlk ekl hcat hroom e1 e2 hbx htk htx hla hkl1 hasc hasc2 hA hB hX hD hDN hloe hds hlD1 hlD2 hDn hr1 hc hk0 hlo2
          go_wp2_with fail
          refine (HKID.out _ (InvT.bel HR.out.1)).mono ?_
          rintro e w5 ⟨rfl, hb5⟩
          have HB5 := Lib.hid hb5
          clear hb5
          obtain ⟨q5, hq5⟩ := pv_ex (lookI (ks.map kb) (a : Nat))
          have HIN5 := Lib.hid (HINNER.out _ _ w5 _ HRT.out HKL.out (HR.out.1.step HB5.out) ((HK0.out.trans HI2.out.2).trans (HR.out.2.trans (Kp.of HB5.out))) LEN5.out)
          rw [hq5] at HIN5 ⊢
          clear hq5
          go_wp2_with fail
          refine HIN5.out.mono ?_
          rintro e w6 ⟨rfl, hi6, hk6⟩
          have HR6 := Lib.hid (And.intro hi6 ((HR.out.2.trans (Kp.of HB5.out)).trans hk6))
          clear hi6 hk6
          have hsblk6 := HR6.out.2.keep sb _ _ _ HS2.out HSB.out (by decide)
          have ks6 := cell_of_one hsblk6
          have hsl6 := lt_of_block hsblk6
          clear hsblk6
          go_wp2_with fail
          refine (HALL.out _ _ (HR6.out.1) LEN7.out).mono ?_
          rintro e w7 ⟨rfl, hi7, hk7⟩
          have HF7 := Lib.hid (And.intro hi7 ((HR6.out.2).trans hk7))
          clear hi7 hk7
          go_wp2_with fail
          rw [HW.out]
          refine (HNX.out _ (InvT.bel (HF7.out.1))).mono ?_
          rintro e w9 ⟨rfl, hb9⟩
          have HB9 := Lib.hid hb9
          clear hb9
          go_wp2_with fail
          go_roundw
          case rel => exact ⟨j + 1, true, by omega, rfl, rfl, rfl, by rw [HEQ.out]; exact InvT.step (HF7.out.1) HB9.out, (HF7.out.2).trans (Kp.of HB9.out), (fun h => by cases h), fun _ => HL2.out⟩
          case measure => exact HMU.out
      | true =>
        have hr2 := hlt2 rfl j hlt (Nat.le_refl _)
        rw [hA] at hr2
        have g1 : (A : Int) ≥ (a : Int) := by omega
        have g2 : ((A : Int) != (a : Int)) = true := by simp; omega
        have g3 : ¬ (A : Int) = (a : Int) := by omega
        rw [thL_true] at HR
        have LEN7 := Lib.hid (show (d ++ DS D lo).length + lx.length ≤ 10000 from by rw [List.length_append]; omega)
        have HEQ := Lib.hid (show d ++ DS (cat ((ks.map kl).take (j + 1))) (thL true lo) = d ++ DS D lo ++ lx.map g from by
          rw [hcat, thL_true]
          have := hds.app htk hbx.et hloe (Et.nil k) htx (Ahead.nil_r _) (HKD.out.2.2.1.ahead hbx hr2) (Ahead.nil_r _)
          rw [List.append_nil, hds.one hbx.et] at this
          rw [this, List.append_assoc])
        have HL2 := Lib.hid (show ∀ i (hi : i < ks.length), j + 1 ≤ i → a < ks[i].1 from fun i hi hij => hlt2 rfl i hi (by omega))
        clear hiv hkp hlt1 hlt2 hlk ekl hcat hroom e1 e2 hbx htk htx hla hkl1 hasc hasc2 hA hB hX hD hDN hloe hds hlD1 hlD2 hDn hr2
        go_wp2_with fail
        refine (HALL.out _ _ (HR.out.1) LEN7.out).mono ?_
        rintro e w7 ⟨rfl, hi7, hk7⟩
        have HF7 := Lib.hid (And.intro hi7 ((HR.out.2).trans hk7))
        clear hi7 hk7
        go_wp2_with fail
        rw [HW.out]
        refine (HNX.out _ (InvT.bel (HF7.out.1))).mono ?_
        rintro e w9 ⟨rfl, hb9⟩
        have HB9 := Lib.hid hb9
        clear hb9
        go_wp2_with fail
        go_roundw
        case rel => exact ⟨j + 1, true, by omega, rfl, rfl, rfl, by rw [HEQ.out]; exact InvT.step (HF7.out.1) HB9.out, (HF7.out.2).trans (Kp.of HB9.out), (fun h => by cases h), fun _ => HL2.out⟩
        case measure => exact HMU.out
    · rw [frO_none hlt, frA_none, frK_none]
      have e : (ks.map kl).take j = ks.map kl := List.take_of_length_le (by rw [List.length_map]; omega)
      rw [e] at HR
      cases th with
      | true =>
        rw [thL_true] at HR
        clear hiv hkp hlt1 hlt2 e
        go_wp2_with fail
        go_end0
        exact ⟨rfl, HR.out.1, (HK0.out.trans HI2.out.2).trans HR.out.2⟩
      | false =>
        have hr1 := hlt1 rfl
        rw [thL_false] at HR
        have hds := HKD.out.2.2.2
        have hce := HKD.out.2.1.et
        have hloe := HKD.out.2.2.1.et
        have hl1 := hds.len hce (Et.nil k)
        have HEQ := Lib.hid (show d ++ DS (cat (ks.map kl)) [] ++ DS [] lo = d ++ DS (cat (ks.map kl)) lo from by
          have hal : Ahead (cat (ks.map kl)) lo := by
            have := HKD.out.2.1.take_ahead j HKD.out.2.2.1 (fun i hi hij => by have := hr1 i (by rw [List.length_map] at hi; exact hi) hij; rw [List.getElem_map]; exact this)
            rw [e] at this
            exact this
          have := hds.app hce (Et.nil k) (Et.nil k) hloe (Ahead.nil_r _) hal (Ahead.nil_l _) (Ahead.nil_l _)
          rw [List.append_nil, List.nil_append] at this
          rw [this, List.append_assoc])
        have HIN5 := Lib.hid (HINNER.out none [] wr (d ++ DS (cat (ks.map kl)) []) rfl (List.length_pos_iff.2 HKD.out.1.cat_ne) HR.out.1 ((HK0.out.trans HI2.out.2).trans HR.out.2) (by rw [List.length_append]; have := HD.out.2.1; simp only [List.length_nil] at hl1 ⊢; omega))
        rw [pv_none] at HIN5
        clear hiv hkp hlt1 hlt2 e hr1 hds hce hloe hl1
        go_wp2_with fail
        refine HIN5.out.mono ?_
        rintro e w6 ⟨rfl, hi6, hk6⟩
        have HR6 := Lib.hid (And.intro hi6 (HR.out.2.trans hk6))
        clear hi6 hk6
        go_wp2_with fail
        go_end0
        exact ⟨rfl, by rw [← HEQ.out]; exact HR6.out.1, (HK0.out.trans HI2.out.2).trans HR6.out.2⟩
end Go.Proofs.YtjokcagggmjgmaaGreat
/-! DifD -/
namespace Go.Proofs.YtjokcagggmjgmaaGreat
open Go.RowKit
set_option linter.unusedVariables false
set_option linter.unusedSimpArgs false
set_option maxRecDepth 100000

theorem fromI_at {l : List (Nat × Nat)} {t i : Nat} (h1 : ∀ j (hj : j < l.length), j < i → l[j].1 < t) (h2 : ∀ j (hj : j < l.length), i ≤ j → t ≤ l[j].1) : fromI l (t : Nat) = l[i]? := by
  induction l generalizing i with
  | nil => rfl
  | cons x l ih =>
    cases i with
    | zero =>
      have := h2 0 (by simp) (Nat.le_refl _)
      rw [fromI_hit (by simp only [List.getElem_cons_zero] at this; omega)]
      rfl
    | succ i =>
      have := h1 0 (by simp) (by omega)
      rw [fromI_skip (by simp only [List.getElem_cons_zero] at this; omega), ih (i := i) (fun j hj hij => by have := h1 (j + 1) (by simpa using hj) (by omega); simpa using this) (fun j hj hij => by have := h2 (j + 1) (by simpa using hj) (by omega); simpa using this)]
      rfl
theorem chg_one_one (p : List Nat) (x y : Nat) {k : Nat} (hp : p.length = k) (ho : ∀ c ∈ p, c < 2 ^ 64) : changesL [⟨p, x⟩] [⟨p, y⟩] = if x = y then [] else [⟨p, true, true, x, y⟩] := by
  have e1 := Et.one x hp ho
  have e2 := Et.one y hp ho
  refine Od.ext (key := Ch.key) (chg_asc e1 e2) (by split <;> simp [Od.Asc]) fun n => ?_
  rw [chg_look e1 e2, Od.look_cons, Od.look_cons, Od.look_nil]
  show chgE (if pkey p = n then _ else _) (if pkey p = n then _ else _) = _
  by_cases hn : pkey p = n
  · rw [if_pos hn, if_pos hn]
    by_cases hxy : x = y
    · rw [if_pos hxy]; simp [chgE, hxy, Od.look_nil]
    · rw [if_neg hxy, Od.look_cons, if_pos (show (⟨p, true, true, x, y⟩ : Ch).key = n from hn)]; simp [chgE, hxy]
  · rw [if_neg hn, if_neg hn]
    by_cases hxy : x = y
    · rw [if_pos hxy]; rfl
    · rw [if_neg hxy, Od.look_cons, if_neg (show ¬ (⟨p, true, true, x, y⟩ : Ch).key = n from hn)]; rfl
/-- at the label: so many kids of both are done -/
structure EvI (W : World) (B k n : Nat) (pre : List Nat) (ka kb' : List (Nat × Nat × List En)) (d : List Ch) (w1 w' : World) (t i j : Nat) : Prop where
  inv : InvT W B (d ++ changesL (cat ((ka.map kl).take i)) (cat ((kb'.map kl).take j))) w'
  kp : Kp B w1 w'
  il : i ≤ ka.length
  jl : j ≤ kb'.length
  a1 : ∀ q (h : q < ka.length), q < i → ka[q].1 < t
  a2 : ∀ q (h : q < ka.length), i ≤ q → t ≤ ka[q].1
  b1 : ∀ q (h : q < kb'.length), q < j → kb'[q].1 < t
  b2 : ∀ q (h : q < kb'.length), j ≤ q → t ≤ kb'[q].1
theorem EvI.bel {W : World} {B k n : Nat} {pre : List Nat} {ka kb' : List (Nat × Nat × List En)} {d : List Ch} {w1 w' w'' : World} {t i j : Nat} (h : EvI W B k n pre ka kb' d w1 w' t i j) (hb : Below w'.heap.size w' w'') : EvI W B k n pre ka kb' d w1 w'' t i j :=
  ⟨h.inv.step hb, h.kp.trans (Kp.of hb), h.il, h.jl, h.a1, h.a2, h.b1, h.b2⟩
theorem kz_lt {k n : Nat} {pre : List Nat} {ks : List (Nat × Nat × List En)} (h : Kz k n pre (ks.map kl)) {i j : Nat} (hij : i < j) (hj : j < ks.length) : (ks[i]'(by omega)).1 < ks[j].1 := by
  have := h.lt hij (show j < (ks.map kl).length by rw [List.length_map]; exact hj)
  rw [List.getElem_map, List.getElem_map] at this
  exact this
theorem kz_ahead {k n a : Nat} {pre : List Nat} {ks : List (Nat × Nat × List En)} (h : Kz k n pre (ks.map kl)) (i : Nat) {m : List En} (hm : Below1 k n pre a m) (hl : ∀ q (h : q < ks.length), q < i → ks[q].1 < a) : Ahead (cat ((ks.map kl).take i)) m :=
  h.take_ahead i hm fun q hq hqi => by have := hl q (by rw [List.length_map] at hq; exact hq) hqi; rw [List.getElem_map]; exact this
theorem kz_bel {k n : Nat} {pre : List Nat} {ks : List (Nat × Nat × List En)} (h : Kz k n pre (ks.map kl)) {i : Nat} (hi : i < ks.length) : Below1 k n pre ks[i].1 ks[i].2.2 := by
  have := h.bel (kl ks[i]) (List.mem_map_of_mem (List.getElem_mem hi))
  exact this
theorem cat_snoc {ks : List (Nat × Nat × List En)} {i : Nat} (hi : i < ks.length) : cat ((ks.map kl).take (i + 1)) = cat ((ks.map kl).take i) ++ ks[i].2.2 := by
  have := cat_take_succ (ks.map kl) i (by rw [List.length_map]; exact hi)
  rw [List.getElem_map] at this
  exact this
theorem cat_room' {ks : List (Nat × Nat × List En)} {i : Nat} (hi : i < ks.length) : (cat ((ks.map kl).take i)).length + ks[i].2.2.length ≤ (cat (ks.map kl)).length := by
  have := cat_room (ks.map kl) i (by rw [List.length_map]; exact hi)
  rw [List.getElem_map] at this
  exact this
theorem cat_take_le (L : List (Nat × List En)) (i : Nat) : (cat (L.take i)).length ≤ (cat L).length := by
  have h : cat L = cat (L.take i) ++ cat (L.drop i) := by
    conv => lhs; rw [← List.take_append_drop i L]
    unfold cat
    rw [List.flatMap_append]
  rw [h, List.length_append]
  omega
section
variable {W : World} {B k n : Nat} {pre : List Nat} {ka kb' : List (Nat × Nat × List En)} {d : List Ch} {w1 w' w'' : World} {t i j : Nat}
theorem EvI.left (h : EvI W B k n pre ka kb' d w1 w' t i j) (za : Kz k n pre (ka.map kl)) (zb : Kz k n pre (kb'.map kl)) (hi : i < ka.length) (hj : ∀ hj : j < kb'.length, ka[i].1 < kb'[j].1)
    (hv : InvT W B (d ++ changesL (cat ((ka.map kl).take i)) (cat ((kb'.map kl).take j)) ++ changesL ka[i].2.2 []) w'') (hk : Kp B w1 w'') : EvI W B k n pre ka kb' d w1 w'' (ka[i].1 + 1) (i + 1) j := by
  have hx := kz_bel za hi
  have e := chg_append (za.take i).et hx.et (zb.take j).et (Et.nil k) (kz_ahead za i hx fun q h1 h2 => by have := kz_lt za h2 hi; omega) (Ahead.nil_r _) (kz_ahead zb j hx fun q h1 h2 => by have := h.b1 q h1 h2; have := h.a2 i hi (Nat.le_refl _); omega) (Ahead.nil_r _)
  rw [List.append_nil] at e
  refine ⟨by rw [cat_snoc hi, e, ← List.append_assoc]; exact hv, hk, by omega, h.jl, fun q h1 h2 => ?_, fun q h1 h2 => ?_, fun q h1 h2 => ?_, fun q h1 h2 => ?_⟩
  · by_cases e : q = i
    · subst e; omega
    · have := kz_lt za (show q < i by omega) hi; omega
  · have := kz_lt za (show i < q by omega) h1; omega
  · have := h.b1 q h1 h2; have := h.a2 i hi (Nat.le_refl _); omega
  · by_cases e : q = j
    · subst e; have := hj h1; omega
    · have := kz_lt zb (show j < q by omega) h1; have := hj (by omega); omega
theorem EvI.right (h : EvI W B k n pre ka kb' d w1 w' t i j) (za : Kz k n pre (ka.map kl)) (zb : Kz k n pre (kb'.map kl)) (hj : j < kb'.length) (hi : ∀ hi : i < ka.length, kb'[j].1 < ka[i].1)
    (hv : InvT W B (d ++ changesL (cat ((ka.map kl).take i)) (cat ((kb'.map kl).take j)) ++ changesL [] kb'[j].2.2) w'') (hk : Kp B w1 w'') : EvI W B k n pre ka kb' d w1 w'' (kb'[j].1 + 1) i (j + 1) := by
  have hx := kz_bel zb hj
  have e := chg_append (za.take i).et (Et.nil k) (zb.take j).et hx.et (Ahead.nil_r _) (kz_ahead za i hx fun q h1 h2 => by have := h.a1 q h1 h2; have := h.b2 j hj (Nat.le_refl _); omega) (Ahead.nil_r _) (kz_ahead zb j hx fun q h1 h2 => by have := kz_lt zb h2 hj; omega)
  rw [List.append_nil] at e
  refine ⟨by rw [cat_snoc hj, e, ← List.append_assoc]; exact hv, hk, h.il, by omega, fun q h1 h2 => ?_, fun q h1 h2 => ?_, fun q h1 h2 => ?_, fun q h1 h2 => ?_⟩
  · have := h.a1 q h1 h2; have := h.b2 j hj (Nat.le_refl _); omega
  · by_cases e : q = i
    · subst e; have := hi h1; omega
    · have := kz_lt za (show i < q by omega) h1; have := hi (by omega); omega
  · by_cases e : q = j
    · subst e; omega
    · have := kz_lt zb (show q < j by omega) hj; omega
  · have := kz_lt zb (show j < q by omega) h1; omega
theorem EvI.both (h : EvI W B k n pre ka kb' d w1 w' t i j) (za : Kz k n pre (ka.map kl)) (zb : Kz k n pre (kb'.map kl)) (hi : i < ka.length) (hj : j < kb'.length) (he : ka[i].1 = kb'[j].1)
    (hv : InvT W B (d ++ changesL (cat ((ka.map kl).take i)) (cat ((kb'.map kl).take j)) ++ changesL ka[i].2.2 kb'[j].2.2) w'') (hk : Kp B w1 w'') : EvI W B k n pre ka kb' d w1 w'' (ka[i].1 + 1) (i + 1) (j + 1) := by
  have hx := kz_bel za hi
  have hy := kz_bel zb hj
  have ha := h.a2 i hi (Nat.le_refl _)
  have e := chg_append (za.take i).et hx.et (zb.take j).et hy.et (kz_ahead za i hx fun q h1 h2 => by have := h.a1 q h1 h2; omega) (kz_ahead za i hy fun q h1 h2 => by have := h.a1 q h1 h2; omega) (kz_ahead zb j hx fun q h1 h2 => by have := h.b1 q h1 h2; omega) (kz_ahead zb j hy fun q h1 h2 => by have := h.b1 q h1 h2; omega)
  refine ⟨by rw [cat_snoc hi, cat_snoc hj, e, ← List.append_assoc]; exact hv, hk, by omega, by omega, fun q h1 h2 => ?_, fun q h1 h2 => ?_, fun q h1 h2 => ?_, fun q h1 h2 => ?_⟩
  · by_cases e : q = i
    · subst e; omega
    · have := kz_lt za (show q < i by omega) hi; omega
  · have := kz_lt za (show i < q by omega) h1; omega
  · by_cases e : q = j
    · subst e; omega
    · have := kz_lt zb (show q < j by omega) hj; omega
  · have := kz_lt zb (show j < q by omega) h1; omega
end
end Go.Proofs.YtjokcagggmjgmaaGreat
/-! SrtP -/
namespace Go.Proofs.YtjokcagggmjgmaaGreat
open Go.RowKit
set_option linter.unusedVariables false

/-- an element of the row: the point's slice, the entry -/
abbrev Pe := Value × En
def ek (x : Pe) : Nat := x.2.key
def Srt (l : List Pe) : Prop := l.Pairwise fun x y => ek x ≤ ek y
/-- of each key the same ones in the same order -/
def Stb (l m : List Pe) : Prop := ∀ n, l.filter (fun x => ek x == n) = m.filter (fun x => ek x == n)
theorem Stb.refl (l : List Pe) : Stb l l := fun n => rfl
theorem Stb.symm {l m : List Pe} (h : Stb l m) : Stb m l := fun n => (h n).symm
theorem Stb.trans {l m o : List Pe} (h : Stb l m) (g : Stb m o) : Stb l o := fun n => (h n).trans (g n)
/-- the last one of each key of a sorted list -/
def lastsL : List Pe → List Pe
  | [] => []
  | [x] => [x]
  | x :: y :: l => if ek x = ek y then lastsL (y :: l) else x :: lastsL (y :: l)
end Go.Proofs.YtjokcagggmjgmaaGreat
/-! BldA -/
namespace Go.Proofs.YtjokcagggmjgmaaGreat
open Go.RowKit
set_option linter.unusedVariables false
set_option linter.unusedSimpArgs false
set_option maxRecDepth 100000

end Go.Proofs.YtjokcagggmjgmaaGreat
/-! FitA -/
namespace Go.Proofs.YtjokcagggmjgmaaGreat
open Go.RowKit
set_option linter.unusedVariables false
set_option linter.unusedSimpArgs false
set_option maxRecDepth 100000

theorem enters_lit' {P : Program} {f : FuncId} {fn : Func} (hf : P.funcs[f]? = some fn) (hname : (fn.name == "runtime.NumGoroutine") = false) (hb : fn.body.isSome = true) (args : Array Value) (w : World) :
    (callFunc f args).run P w = .ok (.enter f args) w := by
  have h1 : fn.name ≠ "runtime.NumGoroutine" := by simpa using hname
  obtain ⟨c, hc⟩ := Option.isSome_iff_exists.1 hb
  simp [callFunc, hf, h1, hc]
def TellF (w : World) (f : FuncId) (cb : Array Value) (l : List Ch) (p : Ch → Bool) : Prop := ∀ c ∈ l, ∀ u w', RdU w' u (pti c.p) → Below w.heap.size w w' → Calls Tryz.prog f (#[.agg #[u, .bool c.had, .bool c.has, .int .u64 (c.old : Nat), .int .u64 (c.new : Nat)]] ++ cb) w' fun e w'' => e = .returned (.bool (p c)) ∧ Below w'.heap.size w' w''
def IdxP (W : World) (l : List Ch) (p : Ch → Bool) (e : Ending) (w' : World) : Prop := ∃ i : Int, e = .returned (.int .i64 i) ∧ (decide (0 ≤ i) = l.any p) ∧ Below W.heap.size W w'
set_option maxHeartbeats 1000000 in
theorem cIndex_any (w : World) (f : FuncId) (cb : Array Value) (l : List Ch) (v : Value) (p : Ch → Bool) (hl : RdC w v l) (hn : l.length ≤ 1000) (hf : TellF w f cb l p)
    (hent : ∀ (args : Array Value) (w : World), (callFunc f args).run Tryz.prog w = .ok (.enter f args) w) : Calls Tryz.prog 146 #[v, .func (.func f) #[] cb] w fun e w' => IdxP w l p e w' := by
  obtain ⟨A, cc, rfl, hx⟩ := hl
  have HX := Lib.hid hx
  have HF := Lib.hid (And.intro hf hn)
  clear hx hf hn
  go_enter Tryz.func146, Tryz.ntmps146
  go_wp2_with fail
  go_loopw [5, 8] (fun _ iv wr => ∃ j : Nat, j ≤ l.length ∧ iv = .int .i64 (j : Nat) ∧ (l.take j).any p = false ∧ Below w.heap.size w wr) (fun _ iv _ => l.length - (intOf iv).toNat)
  case atStart => exact ⟨0, Nat.zero_le _, rfl, by simp, (by repeat (first | exact Below.refl _ _ | (refine Below.drew ?_) | (refine below_drewN' ?_ _) | (refine below_alloc' ?_ _) | (refine Below.setCell ?_ (by first | exact Nat.le_refl _ | (simp; done) | (simp; omega)) _)))⟩
  case round =>
    obtain ⟨j, hj, rfl, hany, hb⟩ := hrel
    have HB := Lib.hid (And.intro hany hb)
    clear hany
    by_cases hlt : j < l.length
    · have h3 : (j : Int) < (l.length : Int) := by omega
      have h5 : (0 : Int) ≤ (j : Int) := by omega
      have HW := Lib.hid (show wrap64 ((j : Int) + 1) = ((j + 1 : Nat) : Int) by have := HF.out.2; unfold wrap64; omega)
      obtain ⟨b2, o2, rfl, hc⟩ := HX.out (by omega)
      obtain ⟨u, k0, ku, k1, k2, k3, k4⟩ := (hc j hlt).keep (Below.keeps hb)
      have htk : (l.take (j + 1)).any p = p l[j] := by rw [← List.take_append_getElem hlt, List.any_append, HB.out.1]; simp
      have HT := Lib.hid (And.intro htk (fun h : p l[j] = true => (List.any_eq_true.2 ⟨_, List.getElem_mem hlt, h⟩ : l.any p = true)))
      have HCL := Lib.hid (fun W (hu : RdU W u (pti l[j].p)) (hb : Below w.heap.size w W) => HF.out.1 l[j] (List.getElem_mem hlt) u W hu hb)
      have HU := Lib.hid ku
      have hlb := World.block_lt_of_cell? wr _ k0
      obtain ⟨Au, cu, rfl, _⟩ := RdU.point ku
      generalize l[j] = c at *
      clear hc htk hb ku
      cases hp : p c with
      | true =>
        rw [hp] at HT HCL
        go_wp2_with fail
        refine (HCL.out _ (HU.out.below (by repeat (first | exact Below.refl _ _ | (refine Below.drew ?_) | (refine below_drewN' ?_ _) | (refine below_alloc' ?_ _) | (refine Below.setCell ?_ (by first | exact Nat.le_refl _ | (simp; done) | (simp; omega)) _)))) (HB.out.2.trans ((show Below wr.heap.size wr _ from (by repeat (first | exact Below.refl _ _ | (refine Below.drew ?_) | (refine below_drewN' ?_ _) | (refine below_alloc' ?_ _) | (refine Below.setCell ?_ (by first | exact Nat.le_refl _ | (simp; done) | (simp; omega)) _)))).mono HB.out.2.size))).mono ?_
        rintro e w2 ⟨rfl, hb2⟩
        have HF2 := Lib.hid (HB.out.2.trans ((below_trans (by repeat (first | exact Below.refl _ _ | (refine Below.drew ?_) | (refine below_drewN' ?_ _) | (refine below_alloc' ?_ _) | (refine Below.setCell ?_ (by first | exact Nat.le_refl _ | (simp; done) | (simp; omega)) _))) hb2).mono HB.out.2.size))
        clear hb2
        go_wp2_with fail
        go_ret
        exact ⟨_, rfl, by rw [HT.out.2 (by first | exact rfl | trivial)]; simp, HF2.out⟩
      | false =>
        rw [hp] at HT HCL
        go_wp2_with fail
        refine (HCL.out _ (HU.out.below (by repeat (first | exact Below.refl _ _ | (refine Below.drew ?_) | (refine below_drewN' ?_ _) | (refine below_alloc' ?_ _) | (refine Below.setCell ?_ (by first | exact Nat.le_refl _ | (simp; done) | (simp; omega)) _)))) (HB.out.2.trans ((show Below wr.heap.size wr _ from (by repeat (first | exact Below.refl _ _ | (refine Below.drew ?_) | (refine below_drewN' ?_ _) | (refine below_alloc' ?_ _) | (refine Below.setCell ?_ (by first | exact Nat.le_refl _ | (simp; done) | (simp; omega)) _)))).mono HB.out.2.size))).mono ?_
        rintro e w2 ⟨rfl, hb2⟩
        have HF2 := Lib.hid (HB.out.2.trans ((below_trans (by repeat (first | exact Below.refl _ _ | (refine Below.drew ?_) | (refine below_drewN' ?_ _) | (refine below_alloc' ?_ _) | (refine Below.setCell ?_ (by first | exact Nat.le_refl _ | (simp; done) | (simp; omega)) _))) hb2).mono HB.out.2.size))
        clear hb2
        go_wp2_with fail
        go_roundw
        case rel => exact ⟨j + 1, by omega, (by first | rw [HW.out] | rfl | simp), HT.out.1, HF2.out⟩
        case measure => (first | (rw [intOf_of' HW.out, intOf_of' rfl]; omega) | (simp [intOf]; omega) | (simp [intOf] <;> omega))
    · have h3 : ¬ (j : Int) < (l.length : Int) := by omega
      have e : l.take j = l := List.take_of_length_le (by omega)
      rw [e] at HB
      clear hb
      go_wp2_with fail
      go_ret
      exact ⟨-1, rfl, by rw [HB.out.1]; rfl, HB.out.2⟩
theorem cContains_any (w : World) (f : FuncId) (cb : Array Value) (l : List Ch) (v : Value) (p : Ch → Bool) (hl : RdC w v l) (hn : l.length ≤ 1000) (hf : TellF w f cb l p)
    (hent : ∀ (args : Array Value) (w : World), (callFunc f args).run Tryz.prog w = .ok (.enter f args) w) : Calls Tryz.prog 93 #[v, .func (.func f) #[] cb] w fun e w' => e = .returned (.bool (l.any p)) ∧ Below w.heap.size w w' := by
  have HI := Lib.hid (cIndex_any w f cb l v p hl hn hf hent)
  obtain ⟨A, cc, rfl, hx⟩ := hl
  clear hx hf hn hent
  go_enter Tryz.func93, Tryz.ntmps93
  go_wp2_with fail
  refine HI.out.mono ?_
  rintro e w2 ⟨i, rfl, hi, hb⟩
  have HB := Lib.hid (And.intro hi hb)
  clear hi hb
  go_wp2_with fail
  go_ret
  exact ⟨by rw [← HB.out.1]; rfl, HB.out.2⟩
/-- the closure of edit.fits -/
theorem fits1_any (w : World) (B t k : Nat) (in_ : List En) (c : Ch) (u : Value) (hB : w.cell? ⟨B, 0, none⟩ = some (.pointer (some ⟨t, 0, none⟩))) (ht : TrR w t k in_) (hu : RdU w u (pti c.p)) (hl : c.p.length = k) (ho : ∀ x ∈ c.p, x < 2 ^ 64) :
    Calls Tryz.prog 94 (#[.agg #[u, .bool c.had, .bool c.has, .int .u64 (c.old : Nat), .int .u64 (c.new : Nat)]] ++ #[.pointer (some ⟨B, 0, none⟩)]) w fun e w' => e = .returned (.bool (!fitC1 in_ c)) ∧ Below w.heap.size w w' := by
  have HG := Lib.hid (fun w' (hb : Below w.heap.size w w') => tget_any w' t k c.p in_ u (ht.bel hb) (hu.below hb) hl ho)
  have hlb := World.block_lt_of_cell? w _ hB
  have HFC := Lib.hid (show fitC1 in_ c = ((getE in_ c.p).isSome == c.had && decide ((getE in_ c.p).getD 0 = c.old)) from rfl)
  obtain ⟨Au, cu, rfl, _⟩ := RdU.point hu
  obtain ⟨g, hg⟩ : ∃ g, getE in_ c.p = g := ⟨_, rfl⟩
  rw [hg] at HG HFC
  clear ht hu hl ho hg
  obtain ⟨p, had, has, old, new⟩ := c
  simp only at *
  obtain ⟨gs, hgs⟩ : ∃ gs, g.isSome = gs := ⟨_, rfl⟩
  obtain ⟨gv, hgv⟩ : ∃ gv, g.getD 0 = gv := ⟨_, rfl⟩
  rw [hgs, hgv] at HFC HG
  have hz0 : ((gv : Int) != (old : Int)) = !decide (gv = old) := by
    by_cases h : gv = old
    · simp [h]
    · simp [h]; omega
  obtain ⟨z, hz⟩ : ∃ z, ((gv : Int) != (old : Int)) = z := ⟨_, rfl⟩
  rw [hz] at hz0
  have HZ := Lib.hid hz0
  clear hgs hgv hz0
  cases gs <;> cases had
  · go_enter Tryz.func94, Tryz.ntmps94
    go_wp2_with fail
    refine (HG.out _ (by repeat (first | exact Below.refl _ _ | (refine Below.drew ?_) | (refine below_drewN' ?_ _) | (refine below_alloc' ?_ _) | (refine Below.setCell ?_ (by first | exact Nat.le_refl _ | (simp; done) | (simp; omega)) _)))).mono ?_
    rintro e w2 ⟨rfl, hb2⟩
    have hblk := (hb2.block w.heap.size (by simp)).trans (alloc_blk _ _)
    have k1 : w2.cell? ⟨w.heap.size, 1, none⟩ = some (.bool false) := by simp [World.cell?, hblk]
    have k3 : w2.cell? ⟨w.heap.size, 3, none⟩ = some (.int .u64 (old : Nat)) := by simp [World.cell?, hblk]
    have hl2 := kr_lt hblk
    have HF2 := Lib.hid (show Below w.heap.size w w2 from below_trans (by repeat (first | exact Below.refl _ _ | (refine Below.drew ?_) | (refine below_drewN' ?_ _) | (refine below_alloc' ?_ _) | (refine Below.setCell ?_ (by first | exact Nat.le_refl _ | (simp; done) | (simp; omega)) _))) hb2)
    clear hb2 hblk
    go_wp2_with fail
    go_ret
    exact ⟨by rw [HFC.out]; simp [HZ.out], HF2.out⟩
  · go_enter Tryz.func94, Tryz.ntmps94
    go_wp2_with fail
    refine (HG.out _ (by repeat (first | exact Below.refl _ _ | (refine Below.drew ?_) | (refine below_drewN' ?_ _) | (refine below_alloc' ?_ _) | (refine Below.setCell ?_ (by first | exact Nat.le_refl _ | (simp; done) | (simp; omega)) _)))).mono ?_
    rintro e w2 ⟨rfl, hb2⟩
    have hblk := (hb2.block w.heap.size (by simp)).trans (alloc_blk _ _)
    have k1 : w2.cell? ⟨w.heap.size, 1, none⟩ = some (.bool true) := by simp [World.cell?, hblk]
    have k3 : w2.cell? ⟨w.heap.size, 3, none⟩ = some (.int .u64 (old : Nat)) := by simp [World.cell?, hblk]
    have hl2 := kr_lt hblk
    have HF2 := Lib.hid (show Below w.heap.size w w2 from below_trans (by repeat (first | exact Below.refl _ _ | (refine Below.drew ?_) | (refine below_drewN' ?_ _) | (refine below_alloc' ?_ _) | (refine Below.setCell ?_ (by first | exact Nat.le_refl _ | (simp; done) | (simp; omega)) _))) hb2)
    clear hb2 hblk
    go_wp2_with fail
    go_ret
    exact ⟨by rw [HFC.out]; simp [HZ.out], HF2.out⟩
  · go_enter Tryz.func94, Tryz.ntmps94
    go_wp2_with fail
    refine (HG.out _ (by repeat (first | exact Below.refl _ _ | (refine Below.drew ?_) | (refine below_drewN' ?_ _) | (refine below_alloc' ?_ _) | (refine Below.setCell ?_ (by first | exact Nat.le_refl _ | (simp; done) | (simp; omega)) _)))).mono ?_
    rintro e w2 ⟨rfl, hb2⟩
    have hblk := (hb2.block w.heap.size (by simp)).trans (alloc_blk _ _)
    have k1 : w2.cell? ⟨w.heap.size, 1, none⟩ = some (.bool false) := by simp [World.cell?, hblk]
    have k3 : w2.cell? ⟨w.heap.size, 3, none⟩ = some (.int .u64 (old : Nat)) := by simp [World.cell?, hblk]
    have hl2 := kr_lt hblk
    have HF2 := Lib.hid (show Below w.heap.size w w2 from below_trans (by repeat (first | exact Below.refl _ _ | (refine Below.drew ?_) | (refine below_drewN' ?_ _) | (refine below_alloc' ?_ _) | (refine Below.setCell ?_ (by first | exact Nat.le_refl _ | (simp; done) | (simp; omega)) _))) hb2)
    clear hb2 hblk
    go_wp2_with fail
    go_ret
    exact ⟨by rw [HFC.out]; simp [HZ.out], HF2.out⟩
  · go_enter Tryz.func94, Tryz.ntmps94
    go_wp2_with fail
    refine (HG.out _ (by repeat (first | exact Below.refl _ _ | (refine Below.drew ?_) | (refine below_drewN' ?_ _) | (refine below_alloc' ?_ _) | (refine Below.setCell ?_ (by first | exact Nat.le_refl _ | (simp; done) | (simp; omega)) _)))).mono ?_
    rintro e w2 ⟨rfl, hb2⟩
    have hblk := (hb2.block w.heap.size (by simp)).trans (alloc_blk _ _)
    have k1 : w2.cell? ⟨w.heap.size, 1, none⟩ = some (.bool true) := by simp [World.cell?, hblk]
    have k3 : w2.cell? ⟨w.heap.size, 3, none⟩ = some (.int .u64 (old : Nat)) := by simp [World.cell?, hblk]
    have hl2 := kr_lt hblk
    have HF2 := Lib.hid (show Below w.heap.size w w2 from below_trans (by repeat (first | exact Below.refl _ _ | (refine Below.drew ?_) | (refine below_drewN' ?_ _) | (refine below_alloc' ?_ _) | (refine Below.setCell ?_ (by first | exact Nat.le_refl _ | (simp; done) | (simp; omega)) _))) hb2)
    clear hb2 hblk
    go_wp2_with fail
    go_ret
    exact ⟨by rw [HFC.out]; simp [HZ.out], HF2.out⟩
theorem efits_any (w : World) (t k : Nat) (in_ : List En) (l : List Ch) (v : Value) (ht : TrR w t k in_) (hl : RdC w v l) (hn : l.length ≤ 1000) (hk : ∀ c ∈ l, c.p.length = k) (ho : OkC l) :
    Calls Tryz.prog 54 #[.pointer (some ⟨t, 0, none⟩), v] w fun e w' => e = .returned (.bool (fitsL in_ l)) ∧ Below w.heap.size w w' := by
  have HC := Lib.hid (fun w' (B : Nat) (hb : Below w.heap.size w w') (hB : w'.cell? ⟨B, 0, none⟩ = some (.pointer (some ⟨t, 0, none⟩))) =>
    cContains_any w' 94 #[.pointer (some ⟨B, 0, none⟩)] l v (fun c => !fitC1 in_ c) (hl.below hb) hn (fun c hc u w2 hu hb2 => fits1_any w2 B t k in_ c u (Below.keeps hb2 _ _ hB) (ht.bel (hb.trans (hb2.mono hb.size))) hu (hk c hc) (ho c hc)) (enters_lit' Tryz.func94 (by kernel_rfl) (by kernel_rfl)))
  have HFL := Lib.hid (show fitsL in_ l = !(l.any fun c => !fitC1 in_ c) from by
    unfold fitsL
    rw [Bool.eq_iff_iff, List.all_eq_true]
    simp)
  have hmf : ∀ (fn : Fn) (first cap : Array Value) (w : World), (Instr.makeFunc fn first cap).run Tryz.prog w = .ok (.func fn first cap) w := fun _ _ _ _ => rfl
  obtain ⟨A, cc, rfl, hx⟩ := hl
  clear hx hn hk ho ht
  go_enter Tryz.func54, Tryz.ntmps54
  go_wp2_with fail
  refine (HC.out _ w.heap.size (by repeat (first | exact Below.refl _ _ | (refine Below.drew ?_) | (refine below_drewN' ?_ _) | (refine below_alloc' ?_ _) | (refine Below.setCell ?_ (by first | exact Nat.le_refl _ | (simp; done) | (simp; omega)) _))) (by simp [go_sem])).mono ?_
  rintro e w2 ⟨rfl, hb2⟩
  have HF2 := Lib.hid (show Below w.heap.size w w2 from below_trans (by repeat (first | exact Below.refl _ _ | (refine Below.drew ?_) | (refine below_drewN' ?_ _) | (refine below_alloc' ?_ _) | (refine Below.setCell ?_ (by first | exact Nat.le_refl _ | (simp; done) | (simp; omega)) _))) hb2)
  clear hb2
  go_wp2_with fail
  go_ret
  exact ⟨by rw [HFL.out]; rfl, HF2.out⟩
theorem echeck_any (w : World) (t k : Nat) (in_ : List En) (l : List Ch) (v : Value) (ht : TrR w t k in_) (hl : RdC w v l) (hn : l.length ≤ 1000) (ho : OkC l) :
    Calls Tryz.prog 53 #[.pointer (some ⟨t, 0, none⟩), v] w fun e w' => e = .returned (.int .i64 (if rightL k l then 0 else 9)) ∧ Below w.heap.size w w' := by
  have HK := tk_any w t k ht.c0
  have HR := Lib.hid (fun w' (hb : Below w.heap.size w w') => eRight_any (k : Nat) l v w' (hl.below hb) hn ho)
  obtain ⟨A, cc, rfl, hx⟩ := hl
  clear hx hn ho ht
  generalize rightL (k : Int) l = r at *
  cases r
  all_goals
    go_enter Tryz.func53, Tryz.ntmps53
    go_wp2_with fail
    refine HK.mono ?_
    rintro e w2 ⟨rfl, hw⟩
    obtain rfl := hw.symm
    clear hw
    go_wp2_with fail
    refine (HR.out _ (by repeat (first | exact Below.refl _ _ | (refine Below.drew ?_) | (refine below_drewN' ?_ _) | (refine below_alloc' ?_ _) | (refine Below.setCell ?_ (by first | exact Nat.le_refl _ | (simp; done) | (simp; omega)) _)))).mono ?_
    rintro e w2 ⟨rfl, hb2⟩
    have HF2 := Lib.hid (show Below w.heap.size w w2 from below_trans (by repeat (first | exact Below.refl _ _ | (refine Below.drew ?_) | (refine below_drewN' ?_ _) | (refine below_alloc' ?_ _) | (refine Below.setCell ?_ (by first | exact Nat.le_refl _ | (simp; done) | (simp; omega)) _))) hb2)
    clear hb2
    go_wp2_with fail
    go_ret
    exact ⟨rfl, HF2.out⟩
/-- a right list's points -/
theorem right_pts {k : Nat} {l : List Ch} (ho : OkC l) (h : rightL k l = true) : Rt k l := by
  obtain ⟨n, h1, _, _, h2⟩ := rightL_rt ho h
  obtain rfl : k = n := by omega
  exact h2
end Go.Proofs.YtjokcagggmjgmaaGreat
/-! SrtA -/
namespace Go.Proofs.YtjokcagggmjgmaaGreat
open Go.RowKit
set_option linter.unusedVariables false
set_option linter.unusedSimpArgs false
set_option maxRecDepth 100000

/-- the row at block g, with room for n, holds the elements xs -/
structure PR (W0 w : World) (g n : Nat) (xs : List Pe) : Prop where
  cells : ∃ cur, w.heap[g]? = some (.cells cur 51 (0, 0)) ∧ cur.size = n * 2 ∧ xs.length ≤ n ∧ ∀ j (h : j < xs.length), cur[j * 2]? = some xs[j].1 ∧ cur[j * 2 + 1]? = some (.int .u64 (xs[j].2.v : Nat))
  pts : ∀ x ∈ xs, RdU W0 x.1 (pti x.2.p)
  low : W0.heap.size ≤ g
  bel : Below W0.heap.size W0 w
theorem PR.at' {W0 w : World} {g n : Nat} {xs : List Pe} (h : PR W0 w g n xs) (j : Nat) (hj : j < xs.length) : w.cell? ⟨g, j * 2, none⟩ = some xs[j].1 ∧ w.cell? ⟨g, j * 2 + 1, none⟩ = some (.int .u64 (xs[j].2.v : Nat)) := by
  obtain ⟨cur, h1, h2, h3, h4⟩ := h.cells
  obtain ⟨a, b⟩ := h4 j hj
  exact ⟨by simp [World.cell?, h1, a], by simp [World.cell?, h1, b]⟩
theorem PR.thaw {W0 w : World} {g n : Nat} {xs : List Pe} (h : PR W0 w g n xs) (j : Nat) : w.frozen? ⟨g, j, none⟩ = false := by
  obtain ⟨cur, h1, _⟩ := h.cells
  simp [World.frozen?, h1]
theorem PR.lt {W0 w : World} {g n : Nat} {xs : List Pe} (h : PR W0 w g n xs) : g < w.heap.size := by
  obtain ⟨cur, h1, _⟩ := h.cells
  exact kr_lt h1
theorem PR.step {W0 w w' : World} {g n : Nat} {xs : List Pe} (h : PR W0 w g n xs) (hb : Below w.heap.size w w') : PR W0 w' g n xs := by
  obtain ⟨cur, h1, h2⟩ := h.cells
  exact ⟨⟨cur, (hb.block g h.lt).trans h1, h2⟩, h.pts, h.low, h.bel.trans (hb.mono h.bel.size)⟩
theorem PR.set {W0 w : World} {g n j : Nat} {xs : List Pe} (h : PR W0 w g n xs) (hj : j < xs.length) (x : Pe) (hx : RdU W0 x.1 (pti x.2.p)) :
    PR W0 ((w.setCell ⟨g, j * 2, none⟩ x.1).setCell ⟨g, j * 2 + 1, none⟩ (.int .u64 (x.2.v : Nat))) g n (xs.set j x) := by
  obtain ⟨cur, h1, h2, h3, h4⟩ := h.cells
  refine ⟨⟨_, kr_set (kr_set h1), by simpa using h2, by simpa using h3, fun i hi => ?_⟩, fun y hy => ?_, h.low, (h.bel.setCell (p := ⟨g, _, none⟩) h.low _).setCell (p := ⟨g, _, none⟩) h.low _⟩
  · rw [List.length_set] at hi
    obtain ⟨a, b⟩ := h4 i hi
    by_cases e : i = j
    · subst e
      simp only [List.getElem_set_self]
      refine ⟨?_, ?_⟩
      · rw [Array.getElem?_setIfInBounds_ne (by omega)]
        exact Array.getElem?_setIfInBounds_self_of_lt (by omega)
      · exact Array.getElem?_setIfInBounds_self_of_lt (by simp; omega)
    · rw [List.getElem_set_ne (by omega)]
      refine ⟨?_, ?_⟩ <;> rw [Array.getElem?_setIfInBounds_ne (by omega), Array.getElem?_setIfInBounds_ne (by omega)] <;> assumption
  · rcases List.mem_or_eq_of_mem_set hy with hy | rfl
    · exact h.pts y hy
    · exact hx
/-- what stands ahead of a round of the inner loop: x is on its way down -/
structure InI (W0 wr : World) (g n a : Nat) (A S R B : List Pe) (x : Pe) (P Q : List Pe) : Prop where
  pr : PR W0 wr g n (A ++ (P ++ x :: (Q ++ (R ++ B))))
  srt : Srt (P ++ Q)
  stb : Stb S (P ++ x :: (Q ++ R))
  gt : ∀ y ∈ Q, ek x < ek y
  len : P.length + Q.length + 1 + R.length = S.length
theorem InI.done {W0 wr : World} {g n a : Nat} {A S R B : List Pe} {x : Pe} {P Q : List Pe} (h : InI W0 wr g n a A S R B x P Q) (hle : ∀ y ∈ P, ek y ≤ ek x) :
    PR W0 wr g n (A ++ ((P ++ x :: Q) ++ (R ++ B))) ∧ Srt (P ++ x :: Q) ∧ Stb S ((P ++ x :: Q) ++ R) ∧ (P ++ x :: Q).length + R.length = S.length ∧ 1 ≤ (P ++ x :: Q).length := by
  refine ⟨by simpa using h.pr, ?_, by simpa using h.stb, by have := h.len; simp; omega, by simp; omega⟩
  obtain ⟨h1, h2, h3⟩ := List.pairwise_append.1 h.srt
  refine List.pairwise_append.2 ⟨h1, List.pairwise_cons.2 ⟨fun z hz => Nat.le_of_lt (h.gt z hz), h2⟩, fun y hy z hz => ?_⟩
  rcases List.mem_cons.1 hz with rfl | hz
  · exact hle y hy
  · exact h3 y hy z hz
theorem InI.step {W0 wr w' : World} {g n a : Nat} {A S R B : List Pe} {x : Pe} {P Q : List Pe} (h : InI W0 wr g n a A S R B x P Q) (hb : Below wr.heap.size wr w') : InI W0 w' g n a A S R B x P Q :=
  ⟨h.pr.step hb, h.srt, h.stb, h.gt, h.len⟩
end Go.Proofs.YtjokcagggmjgmaaGreat
/-! SrtC -/
namespace Go.Proofs.YtjokcagggmjgmaaGreat
open Go.RowKit
set_option linter.unusedVariables false
set_option linter.unusedSimpArgs false
set_option maxRecDepth 100000

theorem cellsE_pe {w : World} {cs : List Value} {l : List En} (h : CellsE w cs l) : ∃ xs : List Pe, xs.map (·.2) = l ∧ (∀ x ∈ xs, RdU w x.1 (pti x.2.p)) ∧ cs.length = xs.length * 2 ∧
    ∀ j (hj : j < xs.length), cs[j * 2]? = some xs[j].1 ∧ cs[j * 2 + 1]? = some (.int .u64 (xs[j].2.v : Nat)) := by
  induction l generalizing cs with
  | nil => obtain rfl : cs = [] := h; exact ⟨[], rfl, by simp, rfl, fun j hj => by simp at hj⟩
  | cons e l ih =>
    obtain ⟨u, ds, rfl, hu, h⟩ := h
    obtain ⟨xs, h1, h2, h3, h4⟩ := ih h
    refine ⟨(u, e) :: xs, by simp [h1], ?_, by simp [h3]; omega, ?_⟩
    · intro x hx
      rcases List.mem_cons.1 hx with rfl | hx
      · exact hu
      · exact h2 x hx
    · intro j hj
      cases j with
      | zero => simp
      | succ j =>
        obtain ⟨a, b⟩ := h4 j (by simpa using hj)
        refine ⟨?_, ?_⟩
        · rw [show (j + 1) * 2 = j * 2 + 1 + 1 by omega]; simpa using a
        · rw [show (j + 1) * 2 + 1 = j * 2 + 1 + 1 + 1 by omega]; simpa using b
theorem OwnE.pr {W w : World} {v : Value} {l : List En} (h : OwnE W w v l) (hb : Below W.heap.size W w) (hne : l ≠ []) : ∃ g n xs, v = .slice (some ⟨g, 0, none⟩) l.length n ∧ PR W w g n xs ∧ xs.map (·.2) = l := by
  obtain ⟨cs, ⟨h1, h2⟩, h3⟩ := h
  obtain ⟨xs, e1, e2, e3, e4⟩ := cellsE_pe h3
  have hlen : xs.length = l.length := by rw [← e1]; simp
  rcases h2 with ⟨_, h0⟩ | ⟨g, cap, cur, rfl, hg, hh, hcap, hm, hs, ht⟩
  · exact absurd (List.length_eq_zero_iff.1 h0) hne
  · refine ⟨g, cap, xs, rfl, ⟨⟨cur, hh, hs, by omega, fun j hj => ?_⟩, e2, hg, hb⟩, e1⟩
    obtain ⟨a, b⟩ := e4 j hj
    have key : ∀ i x, cs[i]? = some x → cur[i]? = some x := fun i x hi => by
      rw [← ht] at hi
      have hil := (List.getElem?_eq_some_iff.1 hi).1
      rw [List.length_take] at hil
      rw [List.getElem?_take_of_lt (by omega), Array.getElem?_toList] at hi
      exact hi
    exact ⟨key _ _ a, key _ _ b⟩
end Go.Proofs.YtjokcagggmjgmaaGreat
/-! SrtD -/
namespace Go.Proofs.YtjokcagggmjgmaaGreat
open Go.RowKit
set_option linter.unusedVariables false
set_option linter.unusedSimpArgs false
set_option maxRecDepth 100000

theorem PR.room {W0 w : World} {g n : Nat} {xs : List Pe} (h : PR W0 w g n xs) (j : Nat) (hj : j < n * 2) : (w.cell? ⟨g, j, none⟩).isSome = true := by
  obtain ⟨cur, h1, h2, _⟩ := h.cells
  simp [World.cell?, h1, h2, hj]
/-- what stands ahead of a round: r are kept, from j on the row is as it was sorted -/
structure SrI (W0 wr : World) (g n : Nat) (ys zs : List Pe) (j r : Nat) : Prop where
  pr : PR W0 wr g n zs
  len : zs.length = ys.length
  rj : r ≤ j
  jm : j ≤ ys.length
  rest : ∀ i (h : i < ys.length) (h' : i < zs.length), j ≤ i → zs[i] = ys[i]
  out : zs.take r ++ lastsL (ys.drop j) = lastsL ys
theorem SrI.take {W0 wr w' : World} {g n : Nat} {ys zs : List Pe} {j r : Nat} (h : SrI W0 wr g n ys zs j r) (hj : j < ys.length) (hne : ∀ h : j + 1 < ys.length, ek ys[j] ≠ ek (ys[j + 1]'h)) (hpr : PR W0 w' g n (zs.set r ys[j])) : SrI W0 w' g n ys (zs.set r ys[j]) (j + 1) (r + 1) := by
  have hrz : r < zs.length := by have := h.rj; have := h.len; omega
  refine ⟨hpr, by rw [List.length_set]; exact h.len, by have := h.rj; omega, by omega, fun i h1 h2 h3 => ?_, ?_⟩
  · rw [List.length_set] at h2
    rw [List.getElem_set_ne (by have := h.rj; omega)]
    exact h.rest i h1 h2 (by omega)
  · rw [← h.out, List.take_add_one, List.getElem?_set_self hrz]
    have e1 : (zs.set r ys[j]).take r = zs.take r := by rw [List.take_set_of_le (Nat.le_refl _)]
    rw [e1, List.append_assoc]
    congr 1
    rw [← List.getElem_cons_drop hj]
    by_cases hlast : j + 1 < ys.length
    · rw [← List.getElem_cons_drop hlast]
      conv => rhs; unfold lastsL
      rw [if_neg (hne hlast)]
      rfl
    · rw [List.drop_eq_nil_of_le (by omega)]
      rfl
theorem PR.rd {W0 w : World} {g n r : Nat} {zs : List Pe} {l : List En} (h : PR W0 w g n zs) (hr : r ≤ zs.length) (hn : n ≤ maxLen) (hl : (zs.take r).map (·.2) = l) : RdE w (.slice (some ⟨g, 0, none⟩) r n) l := by
  subst hl
  have hlen : ((zs.take r).map (·.2)).length = r := by simp; omega
  refine ⟨some ⟨g, 0, none⟩, n, by rw [hlen], ⟨by rw [hlen]; obtain ⟨_, _, _, h3, _⟩ := h.cells; omega, hn, fun _ => ⟨g, 0, rfl⟩⟩, fun _ => ⟨g, 0, rfl, fun q hq => ?_⟩⟩
  have hq' := hq
  rw [hlen] at hq'
  obtain ⟨a, b⟩ := h.at' q (by omega)
  have e : ((zs.take r).map (·.2))[q]'hq = (zs[q]'(by omega)).2 := by simp
  rw [e, Nat.zero_add]
  exact ⟨_, a, (h.pts _ (List.getElem_mem _)).below h.bel, b⟩
end Go.Proofs.YtjokcagggmjgmaaGreat
/-! SrtE -/
namespace Go.Proofs.YtjokcagggmjgmaaGreat
open Go.RowKit
set_option linter.unusedVariables false
set_option linter.unusedSimpArgs false
set_option maxRecDepth 100000

theorem wrap_succ {i : Nat} (hb : i ≤ 100000) : wrap64 ((i : Int) + 1) = ((i + 1 : Nat) : Int) := by unfold wrap64; omega
end Go.Proofs.YtjokcagggmjgmaaGreat
