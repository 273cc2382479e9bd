/-
  Texts that the proof of PackTrees leans on, part 5: contracts of functions, and plain laws.
-/
import Derived.Test.YtdkomhmciihkiaaGreatMPackTrees4
import Derived.LaidEqlPtr
/-! TrF -/
namespace Go
theorem getD_bool {t : Array Value} {d : Nat} {b : Bool} (h : t.getD d undef = .bool b) : t[d]? = some (.bool b) := by
  rw [Array.getD_eq_getD_getElem?] at h
  cases hx : t[d]? with
  | none => rw [hx] at h; cases h
  | some v => rw [hx] at h; simp only [Option.getD_some] at h; rw [h]
end Go
namespace Go.Proofs.YtdkomhmciihkiaaGreat
open Go.RowKit
set_option linter.unusedVariables false
set_option linter.unusedSimpArgs false

/-- an act -/
structure Ac where
  del : Bool
  p : List Nat
  v : Nat
deriving Inhabited
/-- what an act makes of a list -/
def stepL (k : Nat) (l : List En) (a : Ac) : List En := if a.p.length = k then (if a.del then delE a.p l else insE a.p a.v l) else l
def Ac.Ok (a : Ac) : Prop := a.p.length ≤ 40 ∧ (∀ c ∈ a.p, c < 2 ^ 64) ∧ a.v < 2 ^ 64
theorem Et.step {k : Nat} {l : List En} (h : Et k l) (a : Ac) (ha : a.Ok) : Et k (stepL k l a) := by
  unfold stepL
  split
  · split
    · exact h.del _
    · exact h.ins _ (by assumption) ha.2.1
  · exact h
theorem step_len (k : Nat) (l : List En) (a : Ac) : (stepL k l a).length ≤ l.length + 1 := by
  unfold stepL
  split
  · split
    · exact Nat.le_trans Od.del_length (Nat.le_succ _)
    · exact Od.ins_length
  · omega
theorem del_absent {l : List En} {p : List Nat} (h : getE l p = none) : delE p l = l := by
  unfold getE at h
  have h' : Od.look En.key l (pkey p) = none := by
    cases e : Od.look En.key l (pkey p) with
    | none => rfl
    | some x => rw [e] at h; cases h
  have h2 := Od.look_none (key := En.key) h'
  clear h h'
  unfold delE
  induction l with
  | nil => rfl
  | cons x l ih => unfold Od.del; rw [if_neg (h2 x (by simp))]; rw [ih fun y hy => h2 y (by simp [hy])]
set_option maxRecDepth 100000
theorem treeInfo : ∃ j, Tryz.prog.info? 194 = some j ∧ j.size ≠ 0 := by
  have h : (Tryz.prog.info? 194).map (fun i => i.size) = some 2 := by kernel_rfl
  cases e : Tryz.prog.info? 194 with
  | none => rw [e] at h; cases h
  | some j => 
    rw [e] at h
    have h : j.size = 2 := by simpa using h
    exact ⟨j, rfl, by omega⟩
theorem treeUnder : Tryz.prog.underlying 24 = some (.pointer 194) := by kernel_rfl
theorem tree_same (w : World) (g : Nat) : (binOp .eql 24 (.pointer (some ⟨g, 0, none⟩)) (.pointer (some ⟨g, 0, none⟩))).run Tryz.prog w = .ok (.bool true) w := by
  obtain ⟨j, hj, _⟩ := treeInfo
  exact run_eql_ptr_same w _ treeUnder hj
theorem tree_other {w : World} {g t k k' : Nat} {l l' : List En} (hg : TrR w g k l) (ht : TrR w t k' l') (hne : g ≠ t) : (binOp .eql 24 (.pointer (some ⟨g, 0, none⟩)) (.pointer (some ⟨t, 0, none⟩))).run Tryz.prog w = .ok (.bool false) w := by
  obtain ⟨c1, h1⟩ := hg.blk
  obtain ⟨c2, h2⟩ := ht.blk
  obtain ⟨j, hj, hsz⟩ := treeInfo
  exact run_eql_ptr_other w treeUnder hj hsz (by intro h; injection h with h; exact hne h) h1 h2
/-- Done -/
def DoneP (W : World) (k : Nat) (l : List En) (e : Ending) (w' : World) : Prop := ∃ t vin, e = .returned (.tuple #[.pointer (some ⟨t, 0, none⟩), vin, .bool true]) ∧ TrR w' t k l ∧ RdE w' vin l ∧ Below W.heap.size W w'
set_option maxHeartbeats 4000000 in
theorem done_del (w : World) (t k : Nat) (p : List Nat) (v : Nat) (l : List En) (vin vp : Value) (ht : TrR w t k l) (hin : RdE w vin l) (hl : EtS k l) (hp : RdU w vp (pti p)) (ho : p.length ≤ 40 ∧ (∀ c ∈ p, c < 2 ^ 64) ∧ v < 2 ^ 64) :
    Calls Tryz.prog 73 #[.pointer (some ⟨t, 0, none⟩), vin, .agg #[.bool true, vp, .int .u64 (v : Nat)]] w fun e w' => DoneP w k (stepL k l ⟨true, p, v⟩) e w' := by
  have HTK := Lib.hid (fun w1 (hb : Below w.heap.size w w1) => tk_any w1 t k (ht.bel hb).c0)
  have HT := Lib.hid (And.intro ht hin)
  have HV := Lib.hid hp
  have HD := Lib.hid ho
  have HL := Lib.hid hl
  obtain ⟨A2, c2, rfl, _⟩ := RdU.point hp
  obtain ⟨AI, cI, rfl, _⟩ := hin
  by_cases hk : p.length = k
  · have hps : PtS k p := ⟨hk, ho.2.1⟩
    have HRG := Lib.hid (fun w1 (hb : Below w.heap.size w w1) => rGet_any k l p _ _ w1 (HT.out.2.below hb) (HV.out.below hb) hl hps)
    have HRD := Lib.hid (fun w1 (hb : Below w.heap.size w w1) => rDel_any k l p _ _ w1 (HT.out.2.below hb) (HV.out.below hb) hl hps)
    have HTD := Lib.hid (fun w1 (hb : Below w.heap.size w w1) => tdel_any w1 t k p l _ (ht.bel hb) (HV.out.below hb) hk ho.2.1)
    have HST := Lib.hid (show stepL k l ⟨true, p, v⟩ = delE p l by unfold stepL; rw [if_pos hk]; rfl)
    have hn : ((p.length : Int) != (k : Int)) = false := by simp [hk]
    have HK := Lib.hid hk
    clear ht hp ho hl hps hk
    go_enter Tryz.func73, Tryz.ntmps73
    go_wp2_with fail
    refine (HTK.out _ (by repeat (first | exact Below.refl _ _ | (refine Below.drew ?_) | (refine below_drewN' ?_ _) | (refine below_alloc' ?_ _) | (refine Below.setCell ?_ (by first | exact Nat.le_refl _ | (simp; done) | (simp; omega)) _)))).mono ?_
    rintro e w1 ⟨rfl, hw⟩
    obtain rfl := hw.symm
    go_wp2_with fail
    refine (HTD.out _ (by repeat (first | exact Below.refl _ _ | (refine Below.drew ?_) | (refine below_drewN' ?_ _) | (refine below_alloc' ?_ _) | (refine Below.setCell ?_ (by first | exact Nat.le_refl _ | (simp; done) | (simp; omega)) _)))).mono ?_
    rintro e w1 ⟨hb, hc⟩
    have f1 : w1.cell? ⟨w.heap.size, 1, none⟩ = some (.slice A2 p.length c2) := Below.keeps hb _ _ (by simp [go_sem])
    have hBl := World.block_lt_of_cell? w1 _ f1
    have HB := Lib.hid (show Below w.heap.size w w1 from below_trans (by repeat (first | exact Below.refl _ _ | (refine Below.drew ?_) | (refine below_drewN' ?_ _) | (refine below_alloc' ?_ _) | (refine Below.setCell ?_ (by first | exact Nat.le_refl _ | (simp; done) | (simp; omega)) _))) hb)
    rcases hc with ⟨hg, rfl⟩ | ⟨x, g, hg, rfl, htd, hgs⟩
    · have HG := Lib.hid hg
      clear hb hg
      go_wp2_with fail
      refine (HRG.out _ (by repeat (first | exact HB.out | (refine Below.drew ?_) | (refine below_drewN' ?_ _) | (refine below_alloc' ?_ _) | (refine Below.setCell ?_ (by first | exact Nat.le_refl _ | (have := HB.out.size; simp; omega) | (have := HB.out.size; omega)) _)))).mono ?_
      rintro e w2 ⟨rfl, hb2⟩
      rw [HG.out]
      have HB2 := Lib.hid (HB.out.trans (hb2.mono HB.out.size))
      clear hb2
      go_wp2_with fail
      ((try simp only [Exit.inBlock, Exit.then]); refine bodyPost_ret (results_tmp3 rfl _ _ _) rfl ?_)
      rw [HST.out, del_absent HG.out]
      exact ⟨t, _, rfl, HT.out.1.bel (by repeat (first | exact HB2.out | (refine Below.drew ?_) | (refine below_drewN' ?_ _) | (refine below_alloc' ?_ _) | (refine Below.setCell ?_ (by first | exact Nat.le_refl _ | (have := HB2.out.size; simp; omega) | (have := HB2.out.size; omega)) _))), HT.out.2.below (by repeat (first | exact HB2.out | (refine Below.drew ?_) | (refine below_drewN' ?_ _) | (refine below_alloc' ?_ _) | (refine Below.setCell ?_ (by first | exact Nat.le_refl _ | (have := HB2.out.size; simp; omega) | (have := HB2.out.size; omega)) _))), (by repeat (first | exact HB2.out | (refine Below.drew ?_) | (refine below_drewN' ?_ _) | (refine below_alloc' ?_ _) | (refine Below.setCell ?_ (by first | exact Nat.le_refl _ | (have := HB2.out.size; simp; omega) | (have := HB2.out.size; omega)) _)))⟩
    · have HG := Lib.hid hg
      have HN := Lib.hid htd
      clear hb hg htd hgs
      go_wp2_with fail
      refine (HRG.out _ (by repeat (first | exact HB.out | (refine Below.drew ?_) | (refine below_drewN' ?_ _) | (refine below_alloc' ?_ _) | (refine Below.setCell ?_ (by first | exact Nat.le_refl _ | (have := HB.out.size; simp; omega) | (have := HB.out.size; omega)) _)))).mono ?_
      rintro e w2 ⟨rfl, hb2⟩
      rw [HG.out]
      have f3 := Below.keeps hb2 _ _ f1
      have HB2 := Lib.hid (HB.out.trans (hb2.mono HB.out.size))
      have HN2 := Lib.hid (HN.out.bel hb2)
      clear hb2 f1
      go_wp2_with fail
      refine (HRD.out _ (by repeat (first | exact HB2.out | (refine Below.drew ?_) | (refine below_drewN' ?_ _) | (refine below_alloc' ?_ _) | (refine Below.setCell ?_ (by first | exact Nat.le_refl _ | (have := HB2.out.size; simp; omega) | (have := HB2.out.size; omega)) _)))).mono ?_
      rintro e w3 ⟨v3, rfl, hin3, hb3⟩
      have HB3 := Lib.hid (HB2.out.trans (hb3.mono HB2.out.size))
      have HN3 := Lib.hid (And.intro (HN2.out.bel hb3) hin3)
      clear hb3 hin3
      go_wp2_with fail
      ((try simp only [Exit.inBlock, Exit.then]); refine bodyPost_ret (results_tmp3 rfl _ _ _) rfl ?_)
      rw [HST.out]
      exact ⟨g, _, rfl, HN3.out.1.bel (Below.refl _ _), HN3.out.2, HB3.out⟩
  · have HTD := Lib.hid (fun w1 (hb : Below w.heap.size w w1) => tdel_dim w1 t k p.length c2 A2 l (ht.bel hb) hk)
    have HST := Lib.hid (show stepL k l ⟨true, p, v⟩ = l by unfold stepL; rw [if_neg hk])
    have hn : ((p.length : Int) != (k : Int)) = true := by simp; omega
    have hn2 : ¬ (p.length : Int) = (k : Int) := by omega
    clear ht hp ho hl hk
    go_enter Tryz.func73, Tryz.ntmps73
    go_wp2_with fail
    refine (HTK.out _ (by repeat (first | exact Below.refl _ _ | (refine Below.drew ?_) | (refine below_drewN' ?_ _) | (refine below_alloc' ?_ _) | (refine Below.setCell ?_ (by first | exact Nat.le_refl _ | (simp; done) | (simp; omega)) _)))).mono ?_
    rintro e w1 ⟨rfl, hw⟩
    obtain rfl := hw.symm
    go_wp2_with fail
    refine (HTD.out _ (by repeat (first | exact Below.refl _ _ | (refine Below.drew ?_) | (refine below_drewN' ?_ _) | (refine below_alloc' ?_ _) | (refine Below.setCell ?_ (by first | exact Nat.le_refl _ | (simp; done) | (simp; omega)) _)))).mono ?_
    rintro e w1 ⟨rfl, hw⟩
    obtain rfl := hw.symm
    go_wp2_with fail
    ((try simp only [Exit.inBlock, Exit.then]); refine bodyPost_ret (results_tmp3 rfl _ _ _) rfl ?_)
    rw [HST.out]
    exact ⟨t, _, rfl, HT.out.1.bel (by repeat (first | exact Below.refl _ _ | (refine Below.drew ?_) | (refine below_drewN' ?_ _) | (refine below_alloc' ?_ _) | (refine Below.setCell ?_ (by first | exact Nat.le_refl _ | (simp; done) | (simp; omega)) _))), HT.out.2.below (by repeat (first | exact Below.refl _ _ | (refine Below.drew ?_) | (refine below_drewN' ?_ _) | (refine below_alloc' ?_ _) | (refine Below.setCell ?_ (by first | exact Nat.le_refl _ | (simp; done) | (simp; omega)) _))), (by repeat (first | exact Below.refl _ _ | (refine Below.drew ?_) | (refine below_drewN' ?_ _) | (refine below_alloc' ?_ _) | (refine Below.setCell ?_ (by first | exact Nat.le_refl _ | (simp; done) | (simp; omega)) _)))⟩
set_option maxHeartbeats 8000000 in
theorem done_put (w : World) (t k : Nat) (p : List Nat) (v : Nat) (l : List En) (vin vp : Value) (ht : TrR w t k l) (hin : RdE w vin l) (hl : EtS k l) (hp : RdU w vp (pti p)) (ho : p.length ≤ 40 ∧ (∀ c ∈ p, c < 2 ^ 64) ∧ v < 2 ^ 64) :
    Calls Tryz.prog 73 #[.pointer (some ⟨t, 0, none⟩), vin, .agg #[.bool false, vp, .int .u64 (v : Nat)]] w fun e w' => DoneP w k (stepL k l ⟨false, p, v⟩) e w' := by
  have HTK := Lib.hid (fun w1 (hb : Below w.heap.size w w1) => tk_any w1 t k (ht.bel hb).c0)
  have HT := Lib.hid (And.intro ht hin)
  have HV := Lib.hid hp
  have HD := Lib.hid ho
  have HL := Lib.hid hl
  have htl : t < w.heap.size := World.block_lt_of_cell? w _ ht.c0
  obtain ⟨A2, c2, rfl, _⟩ := RdU.point hp
  obtain ⟨AI, cI, rfl, _⟩ := hin
  by_cases hk : p.length = k
  · have hps : PtS k p := ⟨hk, ho.2.1⟩
    have HRG := Lib.hid (fun w1 (hb : Below w.heap.size w w1) => rGet_any k l p _ _ w1 (HT.out.2.below hb) (HV.out.below hb) hl hps)
    have HRP := Lib.hid (fun w1 (hb : Below w.heap.size w w1) => rPut_any k l p v _ _ w1 (HT.out.2.below hb) (HV.out.below hb) hl hps)
    have HTP := Lib.hid (fun w1 (hb : Below w.heap.size w w1) => tput_any w1 t k v p l _ (ht.bel hb) (HV.out.below hb) hk ho.2.1 ho.2.2)
    have HST := Lib.hid (show stepL k l ⟨false, p, v⟩ = insE p v l by unfold stepL; rw [if_pos hk]; rfl)
    have hn : ((p.length : Int) != (k : Int)) = false := by simp [hk]
    have HK := Lib.hid hk
    clear ht hp ho hl hps hk
    go_enter Tryz.func73, Tryz.ntmps73
    go_wp2_with fail
    refine (HTK.out _ (by repeat (first | exact Below.refl _ _ | (refine Below.drew ?_) | (refine below_drewN' ?_ _) | (refine below_alloc' ?_ _) | (refine Below.setCell ?_ (by first | exact Nat.le_refl _ | (simp; done) | (simp; omega)) _)))).mono ?_
    rintro e w1 ⟨rfl, hw⟩
    obtain rfl := hw.symm
    go_wp2_with fail
    refine (HTP.out _ (by repeat (first | exact Below.refl _ _ | (refine Below.drew ?_) | (refine below_drewN' ?_ _) | (refine below_alloc' ?_ _) | (refine Below.setCell ?_ (by first | exact Nat.le_refl _ | (simp; done) | (simp; omega)) _)))).mono ?_
    rintro e w1 ⟨g, rfl, htg, hb, hsame, hother⟩
    have f1 : w1.cell? ⟨w.heap.size, 1, none⟩ = some (.slice A2 p.length c2) := Below.keeps hb _ _ (by simp [go_sem])
    have f2 : w1.cell? ⟨w.heap.size, 2, none⟩ = some (.int .u64 (v : Nat)) := Below.keeps hb _ _ (by simp [go_sem])
    have hBl : w.heap.size < w1.heap.size := World.block_lt_of_cell? w1 _ f1
    have HB := Lib.hid (show Below w.heap.size w w1 from below_trans (by repeat (first | exact Below.refl _ _ | (refine Below.drew ?_) | (refine below_drewN' ?_ _) | (refine below_alloc' ?_ _) | (refine Below.setCell ?_ (by first | exact Nat.le_refl _ | (simp; done) | (simp; omega)) _))) hb)
    have hother' : getE l p ≠ some v → w.heap.size ≤ g := fun h => Nat.le_trans (by simp) (hother h)
    have HG := Lib.hid (And.intro hsame hother')
    have HN := Lib.hid htg
    have HWS := Lib.hid htl
    clear hsame hother hother' htg hb
    go_wp2_with fail
    refine (HRG.out _ (by repeat (first | exact HB.out | (refine Below.drew ?_) | (refine below_drewN' ?_ _) | (refine below_alloc' ?_ _) | (refine Below.setCell ?_ (by first | exact Nat.le_refl _ | (have := HB.out.size; simp; omega) | (have := HB.out.size; omega)) _)))).mono ?_
    rintro e w2 ⟨rfl, hb2⟩
    have HN2 := Lib.hid (And.intro (HN.out.bel hb2) (HB.out.trans (hb2.mono HB.out.size)))
    replace f1 := Below.keeps hb2 _ _ f1
    replace f2 := Below.keeps hb2 _ _ f2
    replace hBl := Nat.lt_of_lt_of_le hBl hb2.size
    clear hb2
    cases hget : getE l p with
    | none =>
      have hgt : ¬ g = t := by have := HG.out.2 (by rw [hget]; simp); omega
      have h1 := hgt
      have HEQ := Lib.hid (fun w3 (hb : Below w2.heap.size w2 w3) => tree_other (HN2.out.1.bel hb) ((HT.out.1.bel HN2.out.2).bel hb) hgt)
      have HGT := Lib.hid hget
      clear hget
      go_wp2_with fail
      refine wp_region_vals 28 [fun z9 _ => z9 = .pointer (some ⟨g, 0, none⟩),
        fun z9 _ => z9 = .slice AI l.length cI,
        fun z9 _ => z9 = .pointer (some ⟨w.heap.size, 1, none⟩),
        fun z9 _ => z9 = .slice A2 p.length c2,
        fun z9 _ => z9 = .pointer (some ⟨w.heap.size, 2, none⟩),
        fun z9 _ => z9 = .int .u64 (v : Nat),
        fun v9 w9 => RdE w9 v9 (insE p v l),
        fun z9 _ => z9 = .int .i64 0,
        fun z9 _ => z9 = .bool true,
        fun z9 _ => z9 = .bool true,
        fun z9 _ => z9 = .pointer (some ⟨g, 0, none⟩),
        fun z9 _ => z9 = .bool true,
        fun z9 _ => z9 = .bool true,
        fun z9 _ => z9 = .bool true,
        fun z9 _ => z9 = .bool false,
        fun z9 _ => z9 = .bool false,
        fun z9 _ => z9 = undef,
        fun z9 _ => z9 = undef,
        fun z9 _ => z9 = undef,
        fun z9 _ => z9 = undef,
        fun z9 _ => z9 = .bool false,
        fun z9 _ => z9 = .pointer (some ⟨g, 0, none⟩),
        fun z9 _ => z9 = .pointer (some ⟨t, 0, none⟩),
        fun z9 _ => z9 = .bool false,
        fun z9 _ => z9 = .bool true,
        fun z9 _ => z9 = .bool true,
        fun z9 _ => z9 = .pointer (some ⟨g, 0, none⟩),
        fun v9 w9 => RdE w9 v9 (insE p v l)]
        (by kernel_rfl) (by kernel_rfl) (by kernel_rfl) (by kernel_rfl) ?_ ?_ ?_
      · intro V hV v w1 w2 h hb
        simp only [List.mem_cons, List.not_mem_nil, or_false] at hV
        rcases hV with rfl | rfl | rfl | rfl | rfl | rfl | rfl | rfl | rfl | rfl | rfl | rfl | rfl | rfl | rfl | rfl | rfl | rfl | rfl | rfl | rfl | rfl | rfl | rfl | rfl | rfl | rfl | rfl
        all_goals first | exact h | (exact RdE.below h hb)
      · intro iq oq hiq hoq
        match iq, hiq with
        | 0, _ =>
        obtain rfl := Option.some.inj hoq
        intro a1 w1 K hk hK
        have e14 : a1.tmps.getD 14 undef = .pointer (some ⟨g, 0, none⟩) := hk.same 14 (by simp)
        simp [Region.wanted, Oper.wp, Act.eval, go_sem, e14, hgt, h1, f1, f2, hBl]
        exact hK _ _ (Below.refl _ _) rfl
        | 1, _ =>
        obtain rfl := Option.some.inj hoq
        intro a1 w1 K hk hK
        have e1 : a1.tmps.getD 1 undef = .slice AI l.length cI := hk.same 1 (by simp)
        simp [Region.wanted, Oper.wp, Act.eval, go_sem, e1, hgt, h1, f1, f2, hBl]
        exact hK _ _ (Below.refl _ _) rfl
        | 2, _ =>
        obtain rfl := Option.some.inj hoq
        intro a1 w1 K hk hK
        have e5 : a1.tmps.getD 5 undef = .pointer (some ⟨w.heap.size, 0, none⟩) := hk.same 5 (by simp)
        simp [Region.wanted, Oper.wp, Act.eval, go_sem, e5, hgt, h1, f1, f2, hBl]
        exact hK _ _ (Below.refl _ _) rfl
        | 3, _ =>
        obtain rfl := Option.some.inj hoq
        intro a1 w1 K hk hK
        have d101 : a1.tmps.getD 101 undef = .pointer (some ⟨w.heap.size, 1, none⟩) := hk.deps ⟨2, .data⟩ (by simp) rfl _ _ rfl rfl
        have c0 : w1.cell? ⟨w.heap.size, 1, none⟩ = some (.slice A2 p.length c2) := Below.keeps hk.ext _ _ (by simp [go_sem, hgt, h1, f1, f2, hBl])
        have c1 : w1.cell? ⟨w.heap.size, 2, none⟩ = some (.int .u64 (v : Nat)) := Below.keeps hk.ext _ _ (by simp [go_sem, hgt, h1, f1, f2, hBl])
        simp [Region.wanted, Oper.wp, Act.eval, go_sem, d101, c0, c1, hgt, h1, f1, f2, hBl]
        exact hK _ _ (Below.refl _ _) rfl
        | 4, _ =>
        obtain rfl := Option.some.inj hoq
        intro a1 w1 K hk hK
        have e5 : a1.tmps.getD 5 undef = .pointer (some ⟨w.heap.size, 0, none⟩) := hk.same 5 (by simp)
        simp [Region.wanted, Oper.wp, Act.eval, go_sem, e5, hgt, h1, f1, f2, hBl]
        exact hK _ _ (Below.refl _ _) rfl
        | 5, _ =>
        obtain rfl := Option.some.inj hoq
        intro a1 w1 K hk hK
        have d103 : a1.tmps.getD 103 undef = .pointer (some ⟨w.heap.size, 2, none⟩) := hk.deps ⟨4, .data⟩ (by simp) rfl _ _ rfl rfl
        have c0 : w1.cell? ⟨w.heap.size, 1, none⟩ = some (.slice A2 p.length c2) := Below.keeps hk.ext _ _ (by simp [go_sem, hgt, h1, f1, f2, hBl])
        have c1 : w1.cell? ⟨w.heap.size, 2, none⟩ = some (.int .u64 (v : Nat)) := Below.keeps hk.ext _ _ (by simp [go_sem, hgt, h1, f1, f2, hBl])
        simp [Region.wanted, Oper.wp, Act.eval, go_sem, d103, c0, c1, hgt, h1, f1, f2, hBl]
        exact hK _ _ (Below.refl _ _) rfl
        | 6, _ =>
        obtain rfl := Option.some.inj hoq
        intro a1 w1 K hk hK
        have d100 : a1.tmps.getD 100 undef = .slice AI l.length cI := hk.deps ⟨1, .data⟩ (by simp) rfl _ _ rfl rfl
        have d102 : a1.tmps.getD 102 undef = .slice A2 p.length c2 := hk.deps ⟨3, .data⟩ (by simp) rfl _ _ rfl rfl
        have d104 : a1.tmps.getD 104 undef = .int .u64 (v : Nat) := hk.deps ⟨5, .data⟩ (by simp) rfl _ _ rfl rfl
        simp [Region.wanted, Oper.wp, Act.eval, go_sem, d100, d102, d104, hgt, h1, f1, f2, hBl]
        refine (HRP.out _ (HN2.out.2.trans ((show Below w2.heap.size w2 _ from below_trans (by repeat (first | exact Below.refl _ _ | (refine Below.drew ?_) | (refine below_drewN' ?_ _) | (refine below_alloc' ?_ _) | (refine Below.setCell ?_ (by first | exact Nat.le_refl _ | (simp; done) | (simp; omega)) _))) hk.ext).mono HN2.out.2.size))).mono ?_
        rintro e w9 ⟨v9, rfl, h9, hb9⟩
        exact hK _ _ hb9 h9
        | 7, _ =>
        obtain rfl := Option.some.inj hoq
        intro a1 w1 K hk hK
        have e15 : a1.tmps.getD 15 undef = .int .i64 0 := hk.same 15 (by simp)
        simp [Region.wanted, Oper.wp, Act.eval, go_sem, e15, hgt, h1, f1, f2, hBl]
        exact hK _ _ (Below.refl _ _) rfl
        | 8, _ =>
        obtain rfl := Option.some.inj hoq
        intro a1 w1 K hk hK
        have d106 : a1.tmps.getD 106 undef = .int .i64 0 := hk.deps ⟨7, .data⟩ (by simp) rfl _ _ rfl rfl
        simp [Region.wanted, Oper.wp, Act.eval, go_sem, d106, hgt, h1, f1, f2, hBl]
        exact hK _ _ (Below.refl _ _) rfl
        | 9, _ =>
        obtain rfl := Option.some.inj hoq
        intro a1 w1 K hk hK
        have d107 : a1.tmps.getD 107 undef = .bool true := hk.deps ⟨8, .data⟩ (by simp) rfl _ _ rfl rfl
        simp [Region.wanted, Oper.wp, Act.eval, go_sem, d107, hgt, h1, f1, f2, hBl]
        exact hK _ _ (Below.refl _ _) rfl
        | 10, _ =>
        obtain rfl := Option.some.inj hoq
        intro a1 w1 K hk hK
        have e14 : a1.tmps.getD 14 undef = .pointer (some ⟨g, 0, none⟩) := hk.same 14 (by simp)
        have gd : a1.tmps[108]? = some (.bool true) := getD_bool (hk.deps ⟨9, .guard⟩ (by simp) rfl _ _ rfl rfl)
        simp [Region.wanted, Oper.wp, Act.eval, go_sem, e14, gd, yielded, hgt, h1, f1, f2, hBl]
        exact hK _ _ (Below.refl _ _) rfl
        | 11, _ =>
        obtain rfl := Option.some.inj hoq
        intro a1 w1 K hk hK
        have d109 : a1.tmps.getD 109 undef = .pointer (some ⟨g, 0, none⟩) := hk.deps ⟨10, .data⟩ (by simp) rfl _ _ rfl rfl
        have gd : a1.tmps[108]? = some (.bool true) := getD_bool (hk.deps ⟨9, .guard⟩ (by simp) rfl _ _ rfl rfl)
        simp [Region.wanted, Oper.wp, Act.eval, go_sem, d109, gd, yielded, hgt, h1, f1, f2, hBl]
        exact hK _ _ (Below.refl _ _) rfl
        | 12, _ =>
        obtain rfl := Option.some.inj hoq
        intro a1 w1 K hk hK
        have d108 : a1.tmps.getD 108 undef = .bool true := hk.deps ⟨9, .data⟩ (by simp) rfl _ _ rfl rfl
        have d110 : a1.tmps.getD 110 undef = .bool true := hk.deps ⟨11, .data⟩ (by simp) rfl _ _ rfl rfl
        simp [Region.wanted, Oper.wp, Act.eval, go_sem, d108, d110, hgt, h1, f1, f2, hBl]
        exact hK _ _ (Below.refl _ _) rfl
        | 13, _ =>
        obtain rfl := Option.some.inj hoq
        intro a1 w1 K hk hK
        have d111 : a1.tmps.getD 111 undef = .bool true := hk.deps ⟨12, .data⟩ (by simp) rfl _ _ rfl rfl
        simp [Region.wanted, Oper.wp, Act.eval, go_sem, d111, hgt, h1, f1, f2, hBl]
        exact hK _ _ (Below.refl _ _) rfl
        | 14, _ =>
        obtain rfl := Option.some.inj hoq
        intro a1 w1 K hk hK
        have e17 : a1.tmps.getD 17 undef = .bool false := hk.same 17 (by simp)
        have gd : a1.tmps[112]? = some (.bool true) := getD_bool (hk.deps ⟨13, .guard⟩ (by simp) rfl _ _ rfl rfl)
        simp [Region.wanted, Oper.wp, Act.eval, go_sem, e17, gd, yielded, hgt, h1, f1, f2, hBl]
        exact hK _ _ (Below.refl _ _) rfl
        | 15, _ =>
        obtain rfl := Option.some.inj hoq
        intro a1 w1 K hk hK
        have d113 : a1.tmps.getD 113 undef = .bool false := hk.deps ⟨14, .data⟩ (by simp) rfl _ _ rfl rfl
        have gd : a1.tmps[112]? = some (.bool true) := getD_bool (hk.deps ⟨13, .guard⟩ (by simp) rfl _ _ rfl rfl)
        simp [Region.wanted, Oper.wp, Act.eval, go_sem, d113, gd, yielded, hgt, h1, f1, f2, hBl]
        exact hK _ _ (Below.refl _ _) rfl
        | 16, _ =>
        obtain rfl := Option.some.inj hoq
        intro a1 w1 K hk hK
        have e16 : a1.tmps.getD 16 undef = .int .u64 0 := hk.same 16 (by simp)
        have gd : a1.tmps[114]? = some (.bool false) := getD_bool (hk.deps ⟨15, .guard⟩ (by simp) rfl _ _ rfl rfl)
        simp [Region.wanted, Oper.wp, Act.eval, go_sem, e16, gd, yielded, hgt, h1, f1, f2, hBl]
        exact hK _ _ (Below.refl _ _) rfl
        | 17, _ =>
        obtain rfl := Option.some.inj hoq
        intro a1 w1 K hk hK
        have e5 : a1.tmps.getD 5 undef = .pointer (some ⟨w.heap.size, 0, none⟩) := hk.same 5 (by simp)
        have gd : a1.tmps[114]? = some (.bool false) := getD_bool (hk.deps ⟨15, .guard⟩ (by simp) rfl _ _ rfl rfl)
        simp [Region.wanted, Oper.wp, Act.eval, go_sem, e5, gd, yielded, hgt, h1, f1, f2, hBl]
        exact hK _ _ (Below.refl _ _) rfl
        | 18, _ =>
        obtain rfl := Option.some.inj hoq
        intro a1 w1 K hk hK
        have d116 : a1.tmps.getD 116 undef = undef := hk.deps ⟨17, .data⟩ (by simp) rfl _ _ rfl rfl
        have gd : a1.tmps[114]? = some (.bool false) := getD_bool (hk.deps ⟨15, .guard⟩ (by simp) rfl _ _ rfl rfl)
        have c0 : w1.cell? ⟨w.heap.size, 1, none⟩ = some (.slice A2 p.length c2) := Below.keeps hk.ext _ _ (by simp [go_sem, hgt, h1, f1, f2, hBl])
        have c1 : w1.cell? ⟨w.heap.size, 2, none⟩ = some (.int .u64 (v : Nat)) := Below.keeps hk.ext _ _ (by simp [go_sem, hgt, h1, f1, f2, hBl])
        simp [Region.wanted, Oper.wp, Act.eval, go_sem, d116, gd, yielded, c0, c1, hgt, h1, f1, f2, hBl]
        exact hK _ _ (Below.refl _ _) rfl
        | 19, _ =>
        obtain rfl := Option.some.inj hoq
        intro a1 w1 K hk hK
        have d115 : a1.tmps.getD 115 undef = undef := hk.deps ⟨16, .data⟩ (by simp) rfl _ _ rfl rfl
        have d117 : a1.tmps.getD 117 undef = undef := hk.deps ⟨18, .data⟩ (by simp) rfl _ _ rfl rfl
        have gd : a1.tmps[114]? = some (.bool false) := getD_bool (hk.deps ⟨15, .guard⟩ (by simp) rfl _ _ rfl rfl)
        simp [Region.wanted, Oper.wp, Act.eval, go_sem, d115, d117, gd, yielded, hgt, h1, f1, f2, hBl]
        exact hK _ _ (Below.refl _ _) rfl
        | 20, _ =>
        obtain rfl := Option.some.inj hoq
        intro a1 w1 K hk hK
        have d114 : a1.tmps.getD 114 undef = .bool false := hk.deps ⟨15, .data⟩ (by simp) rfl _ _ rfl rfl
        have d118 : a1.tmps.getD 118 undef = undef := hk.deps ⟨19, .data⟩ (by simp) rfl _ _ rfl rfl
        have gd : a1.tmps[112]? = some (.bool true) := getD_bool (hk.deps ⟨13, .guard⟩ (by simp) rfl _ _ rfl rfl)
        simp [Region.wanted, Oper.wp, Act.eval, go_sem, d114, d118, gd, yielded, hgt, h1, f1, f2, hBl]
        exact hK _ _ (Below.refl _ _) rfl
        | 21, _ =>
        obtain rfl := Option.some.inj hoq
        intro a1 w1 K hk hK
        have e14 : a1.tmps.getD 14 undef = .pointer (some ⟨g, 0, none⟩) := hk.same 14 (by simp)
        have gd : a1.tmps[112]? = some (.bool true) := getD_bool (hk.deps ⟨13, .guard⟩ (by simp) rfl _ _ rfl rfl)
        simp [Region.wanted, Oper.wp, Act.eval, go_sem, e14, gd, yielded, hgt, h1, f1, f2, hBl]
        exact hK _ _ (Below.refl _ _) rfl
        | 22, _ =>
        obtain rfl := Option.some.inj hoq
        intro a1 w1 K hk hK
        have e0 : a1.tmps.getD 0 undef = .pointer (some ⟨t, 0, none⟩) := hk.same 0 (by simp)
        have gd : a1.tmps[112]? = some (.bool true) := getD_bool (hk.deps ⟨13, .guard⟩ (by simp) rfl _ _ rfl rfl)
        simp [Region.wanted, Oper.wp, Act.eval, go_sem, e0, gd, yielded, hgt, h1, f1, f2, hBl]
        exact hK _ _ (Below.refl _ _) rfl
        | 23, _ =>
        obtain rfl := Option.some.inj hoq
        intro a1 w1 K hk hK
        have d120 : a1.tmps.getD 120 undef = .pointer (some ⟨g, 0, none⟩) := hk.deps ⟨21, .data⟩ (by simp) rfl _ _ rfl rfl
        have d121 : a1.tmps.getD 121 undef = .pointer (some ⟨t, 0, none⟩) := hk.deps ⟨22, .data⟩ (by simp) rfl _ _ rfl rfl
        have gd : a1.tmps[112]? = some (.bool true) := getD_bool (hk.deps ⟨13, .guard⟩ (by simp) rfl _ _ rfl rfl)
        simp [Region.wanted, Oper.wp, Act.eval, go_sem, d120, d121, gd, yielded, hgt, h1, f1, f2, hBl]
        rw [HEQ.out w1 (below_trans (by repeat (first | exact Below.refl _ _ | (refine Below.drew ?_) | (refine below_drewN' ?_ _) | (refine below_alloc' ?_ _) | (refine Below.setCell ?_ (by first | exact Nat.le_refl _ | (simp; done) | (simp; omega)) _))) hk.ext)]
        exact hK _ _ (Below.refl _ _) rfl
        | 24, _ =>
        obtain rfl := Option.some.inj hoq
        intro a1 w1 K hk hK
        have d119 : a1.tmps.getD 119 undef = .bool false := hk.deps ⟨20, .data⟩ (by simp) rfl _ _ rfl rfl
        have d122 : a1.tmps.getD 122 undef = .bool false := hk.deps ⟨23, .data⟩ (by simp) rfl _ _ rfl rfl
        have gd : a1.tmps[112]? = some (.bool true) := getD_bool (hk.deps ⟨13, .guard⟩ (by simp) rfl _ _ rfl rfl)
        simp [Region.wanted, Oper.wp, Act.eval, go_sem, d119, d122, gd, yielded, hgt, h1, f1, f2, hBl]
        exact hK _ _ (Below.refl _ _) rfl
        | 25, _ =>
        obtain rfl := Option.some.inj hoq
        intro a1 w1 K hk hK
        have d112 : a1.tmps.getD 112 undef = .bool true := hk.deps ⟨13, .data⟩ (by simp) rfl _ _ rfl rfl
        have d123 : a1.tmps.getD 123 undef = .bool true := hk.deps ⟨24, .data⟩ (by simp) rfl _ _ rfl rfl
        simp [Region.wanted, Oper.wp, Act.eval, go_sem, d112, d123, hgt, h1, f1, f2, hBl]
        exact hK _ _ (Below.refl _ _) rfl
        | 26, _ =>
        obtain rfl := Option.some.inj hoq
        intro a1 w1 K hk hK
        have d99 : a1.tmps.getD 99 undef = .pointer (some ⟨g, 0, none⟩) := hk.deps ⟨0, .data⟩ (by simp) rfl _ _ rfl rfl
        simp [Region.wanted, Oper.wp, Act.eval, go_sem, d99, hgt, h1, f1, f2, hBl]
        exact hK _ _ (Below.refl _ _) rfl
        | 27, _ =>
        obtain rfl := Option.some.inj hoq
        intro a1 w1 K hk hK
        have D105 : RdE w1 (a1.tmps.getD 105 undef) (insE p v l) := hk.deps ⟨6, .data⟩ (by simp) rfl _ _ rfl rfl
        simp [Region.wanted, Oper.wp, Act.eval, go_sem, hgt, h1, f1, f2, hBl]
        exact hK _ _ (Below.refl _ _) (by simpa [nthV] using D105)
        | k + 28, hk => exact absurd hk (by omega)
      · intro vs w3 hl hb3 hv
        match vs, hl with
        | v0 :: v1 :: v2 :: v3 :: v4 :: v5 :: v6 :: v7 :: v8 :: v9 :: v10 :: v11 :: v12 :: v13 :: v14 :: v15 :: v16 :: v17 :: v18 :: v19 :: v20 :: v21 :: v22 :: v23 :: v24 :: v25 :: v26 :: v27 :: [], _ =>
        obtain rfl : v0 = .pointer (some ⟨g, 0, none⟩) := hv 0 (by omega)
        obtain rfl : v1 = .slice AI l.length cI := hv 1 (by omega)
        obtain rfl : v2 = .pointer (some ⟨w.heap.size, 1, none⟩) := hv 2 (by omega)
        obtain rfl : v3 = .slice A2 p.length c2 := hv 3 (by omega)
        obtain rfl : v4 = .pointer (some ⟨w.heap.size, 2, none⟩) := hv 4 (by omega)
        obtain rfl : v5 = .int .u64 (v : Nat) := hv 5 (by omega)
        have q6 : RdE w3 v6 (insE p v l) := hv 6 (by omega)
        obtain rfl : v7 = .int .i64 0 := hv 7 (by omega)
        obtain rfl : v8 = .bool true := hv 8 (by omega)
        obtain rfl : v9 = .bool true := hv 9 (by omega)
        obtain rfl : v10 = .pointer (some ⟨g, 0, none⟩) := hv 10 (by omega)
        obtain rfl : v11 = .bool true := hv 11 (by omega)
        obtain rfl : v12 = .bool true := hv 12 (by omega)
        obtain rfl : v13 = .bool true := hv 13 (by omega)
        obtain rfl : v14 = .bool false := hv 14 (by omega)
        obtain rfl : v15 = .bool false := hv 15 (by omega)
        obtain rfl : v16 = undef := hv 16 (by omega)
        obtain rfl : v17 = undef := hv 17 (by omega)
        obtain rfl : v18 = undef := hv 18 (by omega)
        obtain rfl : v19 = undef := hv 19 (by omega)
        obtain rfl : v20 = .bool false := hv 20 (by omega)
        obtain rfl : v21 = .pointer (some ⟨g, 0, none⟩) := hv 21 (by omega)
        obtain rfl : v22 = .pointer (some ⟨t, 0, none⟩) := hv 22 (by omega)
        obtain rfl : v23 = .bool false := hv 23 (by omega)
        obtain rfl : v24 = .bool true := hv 24 (by omega)
        obtain rfl : v25 = .bool true := hv 25 (by omega)
        obtain rfl : v26 = .pointer (some ⟨g, 0, none⟩) := hv 26 (by omega)
        have q27 : RdE w3 v27 (insE p v l) := hv 27 (by omega)
        clear hv
        simp only [putAll, List.take_succ_cons, List.take_zero, List.drop_succ_cons, List.drop_zero, Act.put, List.setIfInBounds_toArray, List.set_cons_succ, List.set_cons_zero]
        have hb4 : Below w2.heap.size w2 w3 := below_trans (by repeat (first | exact Below.refl _ _ | (refine Below.drew ?_) | (refine below_drewN' ?_ _) | (refine below_alloc' ?_ _) | (refine Below.setCell ?_ (by first | exact Nat.le_refl _ | (simp; done) | (simp; omega)) _))) hb3
        have HF := Lib.hid (And.intro (HN2.out.1.bel hb4) (And.intro q27 (HN2.out.2.trans (hb4.mono HN2.out.2.size))))
        clear q6 q27 hb3 hb4
        go_wp2_with fail
        ((try simp only [Exit.inBlock, Exit.then]); refine bodyPost_ret (results_tmp3 rfl _ _ _) rfl ?_)
        rw [HST.out]
        exact ⟨g, _, rfl, HF.out⟩
    | some x =>
      by_cases hx : x = v
      · subst hx
        obtain rfl : g = t := HG.out.1 hget
        have HGT := Lib.hid hget
        have hgt : True := trivial
        have HEQ := Lib.hid (fun w3 (hb : Below w2.heap.size w2 w3) => tree_same w3 g)
        have h1 : True := trivial
        clear hget
        go_wp2_with fail
        refine wp_region_vals 28 [fun z9 _ => z9 = .pointer (some ⟨g, 0, none⟩),
          fun z9 _ => z9 = .slice AI l.length cI,
          fun z9 _ => z9 = .pointer (some ⟨w.heap.size, 1, none⟩),
          fun z9 _ => z9 = .slice A2 p.length c2,
          fun z9 _ => z9 = .pointer (some ⟨w.heap.size, 2, none⟩),
          fun z9 _ => z9 = .int .u64 (x : Nat),
          fun v9 w9 => RdE w9 v9 (insE p x l),
          fun z9 _ => z9 = .int .i64 0,
          fun z9 _ => z9 = .bool true,
          fun z9 _ => z9 = .bool true,
          fun z9 _ => z9 = .pointer (some ⟨g, 0, none⟩),
          fun z9 _ => z9 = .bool true,
          fun z9 _ => z9 = .bool true,
          fun z9 _ => z9 = .bool true,
          fun z9 _ => z9 = .bool true,
          fun z9 _ => z9 = .bool true,
          fun z9 _ => z9 = .int .u64 (x : Nat),
          fun z9 _ => z9 = .pointer (some ⟨w.heap.size, 2, none⟩),
          fun z9 _ => z9 = .int .u64 (x : Nat),
          fun z9 _ => z9 = .bool true,
          fun z9 _ => z9 = .bool true,
          fun z9 _ => z9 = .pointer (some ⟨g, 0, none⟩),
          fun z9 _ => z9 = .pointer (some ⟨g, 0, none⟩),
          fun z9 _ => z9 = .bool true,
          fun z9 _ => z9 = .bool true,
          fun z9 _ => z9 = .bool true,
          fun z9 _ => z9 = .pointer (some ⟨g, 0, none⟩),
          fun v9 w9 => RdE w9 v9 (insE p x l)]
          (by kernel_rfl) (by kernel_rfl) (by kernel_rfl) (by kernel_rfl) ?_ ?_ ?_
        · intro V hV v w1 w2 h hb
          simp only [List.mem_cons, List.not_mem_nil, or_false] at hV
          rcases hV with rfl | rfl | rfl | rfl | rfl | rfl | rfl | rfl | rfl | rfl | rfl | rfl | rfl | rfl | rfl | rfl | rfl | rfl | rfl | rfl | rfl | rfl | rfl | rfl | rfl | rfl | rfl | rfl
          all_goals first | exact h | (exact RdE.below h hb)
        · intro iq oq hiq hoq
          match iq, hiq with
          | 0, _ =>
          obtain rfl := Option.some.inj hoq
          intro a1 w1 K hk hK
          have e14 : a1.tmps.getD 14 undef = .pointer (some ⟨g, 0, none⟩) := hk.same 14 (by simp)
          simp [Region.wanted, Oper.wp, Act.eval, go_sem, e14, hgt, h1, f1, f2, hBl]
          exact hK _ _ (Below.refl _ _) rfl
          | 1, _ =>
          obtain rfl := Option.some.inj hoq
          intro a1 w1 K hk hK
          have e1 : a1.tmps.getD 1 undef = .slice AI l.length cI := hk.same 1 (by simp)
          simp [Region.wanted, Oper.wp, Act.eval, go_sem, e1, hgt, h1, f1, f2, hBl]
          exact hK _ _ (Below.refl _ _) rfl
          | 2, _ =>
          obtain rfl := Option.some.inj hoq
          intro a1 w1 K hk hK
          have e5 : a1.tmps.getD 5 undef = .pointer (some ⟨w.heap.size, 0, none⟩) := hk.same 5 (by simp)
          simp [Region.wanted, Oper.wp, Act.eval, go_sem, e5, hgt, h1, f1, f2, hBl]
          exact hK _ _ (Below.refl _ _) rfl
          | 3, _ =>
          obtain rfl := Option.some.inj hoq
          intro a1 w1 K hk hK
          have d101 : a1.tmps.getD 101 undef = .pointer (some ⟨w.heap.size, 1, none⟩) := hk.deps ⟨2, .data⟩ (by simp) rfl _ _ rfl rfl
          have c0 : w1.cell? ⟨w.heap.size, 1, none⟩ = some (.slice A2 p.length c2) := Below.keeps hk.ext _ _ (by simp [go_sem, hgt, h1, f1, f2, hBl])
          have c1 : w1.cell? ⟨w.heap.size, 2, none⟩ = some (.int .u64 (x : Nat)) := Below.keeps hk.ext _ _ (by simp [go_sem, hgt, h1, f1, f2, hBl])
          simp [Region.wanted, Oper.wp, Act.eval, go_sem, d101, c0, c1, hgt, h1, f1, f2, hBl]
          exact hK _ _ (Below.refl _ _) rfl
          | 4, _ =>
          obtain rfl := Option.some.inj hoq
          intro a1 w1 K hk hK
          have e5 : a1.tmps.getD 5 undef = .pointer (some ⟨w.heap.size, 0, none⟩) := hk.same 5 (by simp)
          simp [Region.wanted, Oper.wp, Act.eval, go_sem, e5, hgt, h1, f1, f2, hBl]
          exact hK _ _ (Below.refl _ _) rfl
          | 5, _ =>
          obtain rfl := Option.some.inj hoq
          intro a1 w1 K hk hK
          have d103 : a1.tmps.getD 103 undef = .pointer (some ⟨w.heap.size, 2, none⟩) := hk.deps ⟨4, .data⟩ (by simp) rfl _ _ rfl rfl
          have c0 : w1.cell? ⟨w.heap.size, 1, none⟩ = some (.slice A2 p.length c2) := Below.keeps hk.ext _ _ (by simp [go_sem, hgt, h1, f1, f2, hBl])
          have c1 : w1.cell? ⟨w.heap.size, 2, none⟩ = some (.int .u64 (x : Nat)) := Below.keeps hk.ext _ _ (by simp [go_sem, hgt, h1, f1, f2, hBl])
          simp [Region.wanted, Oper.wp, Act.eval, go_sem, d103, c0, c1, hgt, h1, f1, f2, hBl]
          exact hK _ _ (Below.refl _ _) rfl
          | 6, _ =>
          obtain rfl := Option.some.inj hoq
          intro a1 w1 K hk hK
          have d100 : a1.tmps.getD 100 undef = .slice AI l.length cI := hk.deps ⟨1, .data⟩ (by simp) rfl _ _ rfl rfl
          have d102 : a1.tmps.getD 102 undef = .slice A2 p.length c2 := hk.deps ⟨3, .data⟩ (by simp) rfl _ _ rfl rfl
          have d104 : a1.tmps.getD 104 undef = .int .u64 (x : Nat) := hk.deps ⟨5, .data⟩ (by simp) rfl _ _ rfl rfl
          simp [Region.wanted, Oper.wp, Act.eval, go_sem, d100, d102, d104, hgt, h1, f1, f2, hBl]
          refine (HRP.out _ (HN2.out.2.trans ((show Below w2.heap.size w2 _ from below_trans (by repeat (first | exact Below.refl _ _ | (refine Below.drew ?_) | (refine below_drewN' ?_ _) | (refine below_alloc' ?_ _) | (refine Below.setCell ?_ (by first | exact Nat.le_refl _ | (simp; done) | (simp; omega)) _))) hk.ext).mono HN2.out.2.size))).mono ?_
          rintro e w9 ⟨v9, rfl, h9, hb9⟩
          exact hK _ _ hb9 h9
          | 7, _ =>
          obtain rfl := Option.some.inj hoq
          intro a1 w1 K hk hK
          have e15 : a1.tmps.getD 15 undef = .int .i64 0 := hk.same 15 (by simp)
          simp [Region.wanted, Oper.wp, Act.eval, go_sem, e15, hgt, h1, f1, f2, hBl]
          exact hK _ _ (Below.refl _ _) rfl
          | 8, _ =>
          obtain rfl := Option.some.inj hoq
          intro a1 w1 K hk hK
          have d106 : a1.tmps.getD 106 undef = .int .i64 0 := hk.deps ⟨7, .data⟩ (by simp) rfl _ _ rfl rfl
          simp [Region.wanted, Oper.wp, Act.eval, go_sem, d106, hgt, h1, f1, f2, hBl]
          exact hK _ _ (Below.refl _ _) rfl
          | 9, _ =>
          obtain rfl := Option.some.inj hoq
          intro a1 w1 K hk hK
          have d107 : a1.tmps.getD 107 undef = .bool true := hk.deps ⟨8, .data⟩ (by simp) rfl _ _ rfl rfl
          simp [Region.wanted, Oper.wp, Act.eval, go_sem, d107, hgt, h1, f1, f2, hBl]
          exact hK _ _ (Below.refl _ _) rfl
          | 10, _ =>
          obtain rfl := Option.some.inj hoq
          intro a1 w1 K hk hK
          have e14 : a1.tmps.getD 14 undef = .pointer (some ⟨g, 0, none⟩) := hk.same 14 (by simp)
          have gd : a1.tmps[108]? = some (.bool true) := getD_bool (hk.deps ⟨9, .guard⟩ (by simp) rfl _ _ rfl rfl)
          simp [Region.wanted, Oper.wp, Act.eval, go_sem, e14, gd, yielded, hgt, h1, f1, f2, hBl]
          exact hK _ _ (Below.refl _ _) rfl
          | 11, _ =>
          obtain rfl := Option.some.inj hoq
          intro a1 w1 K hk hK
          have d109 : a1.tmps.getD 109 undef = .pointer (some ⟨g, 0, none⟩) := hk.deps ⟨10, .data⟩ (by simp) rfl _ _ rfl rfl
          have gd : a1.tmps[108]? = some (.bool true) := getD_bool (hk.deps ⟨9, .guard⟩ (by simp) rfl _ _ rfl rfl)
          simp [Region.wanted, Oper.wp, Act.eval, go_sem, d109, gd, yielded, hgt, h1, f1, f2, hBl]
          exact hK _ _ (Below.refl _ _) rfl
          | 12, _ =>
          obtain rfl := Option.some.inj hoq
          intro a1 w1 K hk hK
          have d108 : a1.tmps.getD 108 undef = .bool true := hk.deps ⟨9, .data⟩ (by simp) rfl _ _ rfl rfl
          have d110 : a1.tmps.getD 110 undef = .bool true := hk.deps ⟨11, .data⟩ (by simp) rfl _ _ rfl rfl
          simp [Region.wanted, Oper.wp, Act.eval, go_sem, d108, d110, hgt, h1, f1, f2, hBl]
          exact hK _ _ (Below.refl _ _) rfl
          | 13, _ =>
          obtain rfl := Option.some.inj hoq
          intro a1 w1 K hk hK
          have d111 : a1.tmps.getD 111 undef = .bool true := hk.deps ⟨12, .data⟩ (by simp) rfl _ _ rfl rfl
          simp [Region.wanted, Oper.wp, Act.eval, go_sem, d111, hgt, h1, f1, f2, hBl]
          exact hK _ _ (Below.refl _ _) rfl
          | 14, _ =>
          obtain rfl := Option.some.inj hoq
          intro a1 w1 K hk hK
          have e17 : a1.tmps.getD 17 undef = .bool true := hk.same 17 (by simp)
          have gd : a1.tmps[112]? = some (.bool true) := getD_bool (hk.deps ⟨13, .guard⟩ (by simp) rfl _ _ rfl rfl)
          simp [Region.wanted, Oper.wp, Act.eval, go_sem, e17, gd, yielded, hgt, h1, f1, f2, hBl]
          exact hK _ _ (Below.refl _ _) rfl
          | 15, _ =>
          obtain rfl := Option.some.inj hoq
          intro a1 w1 K hk hK
          have d113 : a1.tmps.getD 113 undef = .bool true := hk.deps ⟨14, .data⟩ (by simp) rfl _ _ rfl rfl
          have gd : a1.tmps[112]? = some (.bool true) := getD_bool (hk.deps ⟨13, .guard⟩ (by simp) rfl _ _ rfl rfl)
          simp [Region.wanted, Oper.wp, Act.eval, go_sem, d113, gd, yielded, hgt, h1, f1, f2, hBl]
          exact hK _ _ (Below.refl _ _) rfl
          | 16, _ =>
          obtain rfl := Option.some.inj hoq
          intro a1 w1 K hk hK
          have e16 : a1.tmps.getD 16 undef = .int .u64 (x : Nat) := hk.same 16 (by simp)
          have gd : a1.tmps[114]? = some (.bool true) := getD_bool (hk.deps ⟨15, .guard⟩ (by simp) rfl _ _ rfl rfl)
          simp [Region.wanted, Oper.wp, Act.eval, go_sem, e16, gd, yielded, hgt, h1, f1, f2, hBl]
          exact hK _ _ (Below.refl _ _) rfl
          | 17, _ =>
          obtain rfl := Option.some.inj hoq
          intro a1 w1 K hk hK
          have e5 : a1.tmps.getD 5 undef = .pointer (some ⟨w.heap.size, 0, none⟩) := hk.same 5 (by simp)
          have gd : a1.tmps[114]? = some (.bool true) := getD_bool (hk.deps ⟨15, .guard⟩ (by simp) rfl _ _ rfl rfl)
          simp [Region.wanted, Oper.wp, Act.eval, go_sem, e5, gd, yielded, hgt, h1, f1, f2, hBl]
          exact hK _ _ (Below.refl _ _) rfl
          | 18, _ =>
          obtain rfl := Option.some.inj hoq
          intro a1 w1 K hk hK
          have d116 : a1.tmps.getD 116 undef = .pointer (some ⟨w.heap.size, 2, none⟩) := hk.deps ⟨17, .data⟩ (by simp) rfl _ _ rfl rfl
          have gd : a1.tmps[114]? = some (.bool true) := getD_bool (hk.deps ⟨15, .guard⟩ (by simp) rfl _ _ rfl rfl)
          have c0 : w1.cell? ⟨w.heap.size, 1, none⟩ = some (.slice A2 p.length c2) := Below.keeps hk.ext _ _ (by simp [go_sem, hgt, h1, f1, f2, hBl])
          have c1 : w1.cell? ⟨w.heap.size, 2, none⟩ = some (.int .u64 (x : Nat)) := Below.keeps hk.ext _ _ (by simp [go_sem, hgt, h1, f1, f2, hBl])
          simp [Region.wanted, Oper.wp, Act.eval, go_sem, d116, gd, yielded, c0, c1, hgt, h1, f1, f2, hBl]
          exact hK _ _ (Below.refl _ _) rfl
          | 19, _ =>
          obtain rfl := Option.some.inj hoq
          intro a1 w1 K hk hK
          have d115 : a1.tmps.getD 115 undef = .int .u64 (x : Nat) := hk.deps ⟨16, .data⟩ (by simp) rfl _ _ rfl rfl
          have d117 : a1.tmps.getD 117 undef = .int .u64 (x : Nat) := hk.deps ⟨18, .data⟩ (by simp) rfl _ _ rfl rfl
          have gd : a1.tmps[114]? = some (.bool true) := getD_bool (hk.deps ⟨15, .guard⟩ (by simp) rfl _ _ rfl rfl)
          simp [Region.wanted, Oper.wp, Act.eval, go_sem, d115, d117, gd, yielded, hgt, h1, f1, f2, hBl]
          exact hK _ _ (Below.refl _ _) rfl
          | 20, _ =>
          obtain rfl := Option.some.inj hoq
          intro a1 w1 K hk hK
          have d114 : a1.tmps.getD 114 undef = .bool true := hk.deps ⟨15, .data⟩ (by simp) rfl _ _ rfl rfl
          have d118 : a1.tmps.getD 118 undef = .bool true := hk.deps ⟨19, .data⟩ (by simp) rfl _ _ rfl rfl
          have gd : a1.tmps[112]? = some (.bool true) := getD_bool (hk.deps ⟨13, .guard⟩ (by simp) rfl _ _ rfl rfl)
          simp [Region.wanted, Oper.wp, Act.eval, go_sem, d114, d118, gd, yielded, hgt, h1, f1, f2, hBl]
          exact hK _ _ (Below.refl _ _) rfl
          | 21, _ =>
          obtain rfl := Option.some.inj hoq
          intro a1 w1 K hk hK
          have e14 : a1.tmps.getD 14 undef = .pointer (some ⟨g, 0, none⟩) := hk.same 14 (by simp)
          have gd : a1.tmps[112]? = some (.bool true) := getD_bool (hk.deps ⟨13, .guard⟩ (by simp) rfl _ _ rfl rfl)
          simp [Region.wanted, Oper.wp, Act.eval, go_sem, e14, gd, yielded, hgt, h1, f1, f2, hBl]
          exact hK _ _ (Below.refl _ _) rfl
          | 22, _ =>
          obtain rfl := Option.some.inj hoq
          intro a1 w1 K hk hK
          have e0 : a1.tmps.getD 0 undef = .pointer (some ⟨g, 0, none⟩) := hk.same 0 (by simp)
          have gd : a1.tmps[112]? = some (.bool true) := getD_bool (hk.deps ⟨13, .guard⟩ (by simp) rfl _ _ rfl rfl)
          simp [Region.wanted, Oper.wp, Act.eval, go_sem, e0, gd, yielded, hgt, h1, f1, f2, hBl]
          exact hK _ _ (Below.refl _ _) rfl
          | 23, _ =>
          obtain rfl := Option.some.inj hoq
          intro a1 w1 K hk hK
          have d120 : a1.tmps.getD 120 undef = .pointer (some ⟨g, 0, none⟩) := hk.deps ⟨21, .data⟩ (by simp) rfl _ _ rfl rfl
          have d121 : a1.tmps.getD 121 undef = .pointer (some ⟨g, 0, none⟩) := hk.deps ⟨22, .data⟩ (by simp) rfl _ _ rfl rfl
          have gd : a1.tmps[112]? = some (.bool true) := getD_bool (hk.deps ⟨13, .guard⟩ (by simp) rfl _ _ rfl rfl)
          simp [Region.wanted, Oper.wp, Act.eval, go_sem, d120, d121, gd, yielded, hgt, h1, f1, f2, hBl]
          rw [HEQ.out w1 (below_trans (by repeat (first | exact Below.refl _ _ | (refine Below.drew ?_) | (refine below_drewN' ?_ _) | (refine below_alloc' ?_ _) | (refine Below.setCell ?_ (by first | exact Nat.le_refl _ | (simp; done) | (simp; omega)) _))) hk.ext)]
          exact hK _ _ (Below.refl _ _) rfl
          | 24, _ =>
          obtain rfl := Option.some.inj hoq
          intro a1 w1 K hk hK
          have d119 : a1.tmps.getD 119 undef = .bool true := hk.deps ⟨20, .data⟩ (by simp) rfl _ _ rfl rfl
          have d122 : a1.tmps.getD 122 undef = .bool true := hk.deps ⟨23, .data⟩ (by simp) rfl _ _ rfl rfl
          have gd : a1.tmps[112]? = some (.bool true) := getD_bool (hk.deps ⟨13, .guard⟩ (by simp) rfl _ _ rfl rfl)
          simp [Region.wanted, Oper.wp, Act.eval, go_sem, d119, d122, gd, yielded, hgt, h1, f1, f2, hBl]
          exact hK _ _ (Below.refl _ _) rfl
          | 25, _ =>
          obtain rfl := Option.some.inj hoq
          intro a1 w1 K hk hK
          have d112 : a1.tmps.getD 112 undef = .bool true := hk.deps ⟨13, .data⟩ (by simp) rfl _ _ rfl rfl
          have d123 : a1.tmps.getD 123 undef = .bool true := hk.deps ⟨24, .data⟩ (by simp) rfl _ _ rfl rfl
          simp [Region.wanted, Oper.wp, Act.eval, go_sem, d112, d123, hgt, h1, f1, f2, hBl]
          exact hK _ _ (Below.refl _ _) rfl
          | 26, _ =>
          obtain rfl := Option.some.inj hoq
          intro a1 w1 K hk hK
          have d99 : a1.tmps.getD 99 undef = .pointer (some ⟨g, 0, none⟩) := hk.deps ⟨0, .data⟩ (by simp) rfl _ _ rfl rfl
          simp [Region.wanted, Oper.wp, Act.eval, go_sem, d99, hgt, h1, f1, f2, hBl]
          exact hK _ _ (Below.refl _ _) rfl
          | 27, _ =>
          obtain rfl := Option.some.inj hoq
          intro a1 w1 K hk hK
          have D105 : RdE w1 (a1.tmps.getD 105 undef) (insE p x l) := hk.deps ⟨6, .data⟩ (by simp) rfl _ _ rfl rfl
          simp [Region.wanted, Oper.wp, Act.eval, go_sem, hgt, h1, f1, f2, hBl]
          exact hK _ _ (Below.refl _ _) (by simpa [nthV] using D105)
          | k + 28, hk => exact absurd hk (by omega)
        · intro vs w3 hl hb3 hv
          match vs, hl with
          | v0 :: v1 :: v2 :: v3 :: v4 :: v5 :: v6 :: v7 :: v8 :: v9 :: v10 :: v11 :: v12 :: v13 :: v14 :: v15 :: v16 :: v17 :: v18 :: v19 :: v20 :: v21 :: v22 :: v23 :: v24 :: v25 :: v26 :: v27 :: [], _ =>
          obtain rfl : v0 = .pointer (some ⟨g, 0, none⟩) := hv 0 (by omega)
          obtain rfl : v1 = .slice AI l.length cI := hv 1 (by omega)
          obtain rfl : v2 = .pointer (some ⟨w.heap.size, 1, none⟩) := hv 2 (by omega)
          obtain rfl : v3 = .slice A2 p.length c2 := hv 3 (by omega)
          obtain rfl : v4 = .pointer (some ⟨w.heap.size, 2, none⟩) := hv 4 (by omega)
          obtain rfl : v5 = .int .u64 (x : Nat) := hv 5 (by omega)
          have q6 : RdE w3 v6 (insE p x l) := hv 6 (by omega)
          obtain rfl : v7 = .int .i64 0 := hv 7 (by omega)
          obtain rfl : v8 = .bool true := hv 8 (by omega)
          obtain rfl : v9 = .bool true := hv 9 (by omega)
          obtain rfl : v10 = .pointer (some ⟨g, 0, none⟩) := hv 10 (by omega)
          obtain rfl : v11 = .bool true := hv 11 (by omega)
          obtain rfl : v12 = .bool true := hv 12 (by omega)
          obtain rfl : v13 = .bool true := hv 13 (by omega)
          obtain rfl : v14 = .bool true := hv 14 (by omega)
          obtain rfl : v15 = .bool true := hv 15 (by omega)
          obtain rfl : v16 = .int .u64 (x : Nat) := hv 16 (by omega)
          obtain rfl : v17 = .pointer (some ⟨w.heap.size, 2, none⟩) := hv 17 (by omega)
          obtain rfl : v18 = .int .u64 (x : Nat) := hv 18 (by omega)
          obtain rfl : v19 = .bool true := hv 19 (by omega)
          obtain rfl : v20 = .bool true := hv 20 (by omega)
          obtain rfl : v21 = .pointer (some ⟨g, 0, none⟩) := hv 21 (by omega)
          obtain rfl : v22 = .pointer (some ⟨g, 0, none⟩) := hv 22 (by omega)
          obtain rfl : v23 = .bool true := hv 23 (by omega)
          obtain rfl : v24 = .bool true := hv 24 (by omega)
          obtain rfl : v25 = .bool true := hv 25 (by omega)
          obtain rfl : v26 = .pointer (some ⟨g, 0, none⟩) := hv 26 (by omega)
          have q27 : RdE w3 v27 (insE p x l) := hv 27 (by omega)
          clear hv
          simp only [putAll, List.take_succ_cons, List.take_zero, List.drop_succ_cons, List.drop_zero, Act.put, List.setIfInBounds_toArray, List.set_cons_succ, List.set_cons_zero]
          have hb4 : Below w2.heap.size w2 w3 := below_trans (by repeat (first | exact Below.refl _ _ | (refine Below.drew ?_) | (refine below_drewN' ?_ _) | (refine below_alloc' ?_ _) | (refine Below.setCell ?_ (by first | exact Nat.le_refl _ | (simp; done) | (simp; omega)) _))) hb3
          have HF := Lib.hid (And.intro (HN2.out.1.bel hb4) (And.intro q27 (HN2.out.2.trans (hb4.mono HN2.out.2.size))))
          clear q6 q27 hb3 hb4
          go_wp2_with fail
          ((try simp only [Exit.inBlock, Exit.then]); refine bodyPost_ret (results_tmp3 rfl _ _ _) rfl ?_)
          rw [HST.out]
          exact ⟨g, _, rfl, HF.out⟩
      · have hgt : ¬ g = t := by have := HG.out.2 (by rw [hget]; simpa using hx); omega
        have h1 : ((x : Int) == (v : Int)) = false := by simp; omega
        have HEQ := Lib.hid (fun w3 (hb : Below w2.heap.size w2 w3) => tree_other (HN2.out.1.bel hb) ((HT.out.1.bel HN2.out.2).bel hb) hgt)
        have HGT := Lib.hid hget
        clear hget
        go_wp2_with fail
        refine wp_region_vals 28 [fun z9 _ => z9 = .pointer (some ⟨g, 0, none⟩),
          fun z9 _ => z9 = .slice AI l.length cI,
          fun z9 _ => z9 = .pointer (some ⟨w.heap.size, 1, none⟩),
          fun z9 _ => z9 = .slice A2 p.length c2,
          fun z9 _ => z9 = .pointer (some ⟨w.heap.size, 2, none⟩),
          fun z9 _ => z9 = .int .u64 (v : Nat),
          fun v9 w9 => RdE w9 v9 (insE p v l),
          fun z9 _ => z9 = .int .i64 0,
          fun z9 _ => z9 = .bool true,
          fun z9 _ => z9 = .bool true,
          fun z9 _ => z9 = .pointer (some ⟨g, 0, none⟩),
          fun z9 _ => z9 = .bool true,
          fun z9 _ => z9 = .bool true,
          fun z9 _ => z9 = .bool true,
          fun z9 _ => z9 = .bool true,
          fun z9 _ => z9 = .bool true,
          fun z9 _ => z9 = .int .u64 (x : Nat),
          fun z9 _ => z9 = .pointer (some ⟨w.heap.size, 2, none⟩),
          fun z9 _ => z9 = .int .u64 (v : Nat),
          fun z9 _ => z9 = .bool false,
          fun z9 _ => z9 = .bool false,
          fun z9 _ => z9 = .pointer (some ⟨g, 0, none⟩),
          fun z9 _ => z9 = .pointer (some ⟨t, 0, none⟩),
          fun z9 _ => z9 = .bool false,
          fun z9 _ => z9 = .bool true,
          fun z9 _ => z9 = .bool true,
          fun z9 _ => z9 = .pointer (some ⟨g, 0, none⟩),
          fun v9 w9 => RdE w9 v9 (insE p v l)]
          (by kernel_rfl) (by kernel_rfl) (by kernel_rfl) (by kernel_rfl) ?_ ?_ ?_
        · intro V hV v w1 w2 h hb
          simp only [List.mem_cons, List.not_mem_nil, or_false] at hV
          rcases hV with rfl | rfl | rfl | rfl | rfl | rfl | rfl | rfl | rfl | rfl | rfl | rfl | rfl | rfl | rfl | rfl | rfl | rfl | rfl | rfl | rfl | rfl | rfl | rfl | rfl | rfl | rfl | rfl
          all_goals first | exact h | (exact RdE.below h hb)
        · intro iq oq hiq hoq
          match iq, hiq with
          | 0, _ =>
          obtain rfl := Option.some.inj hoq
          intro a1 w1 K hk hK
          have e14 : a1.tmps.getD 14 undef = .pointer (some ⟨g, 0, none⟩) := hk.same 14 (by simp)
          simp [Region.wanted, Oper.wp, Act.eval, go_sem, e14, hgt, h1, f1, f2, hBl]
          exact hK _ _ (Below.refl _ _) rfl
          | 1, _ =>
          obtain rfl := Option.some.inj hoq
          intro a1 w1 K hk hK
          have e1 : a1.tmps.getD 1 undef = .slice AI l.length cI := hk.same 1 (by simp)
          simp [Region.wanted, Oper.wp, Act.eval, go_sem, e1, hgt, h1, f1, f2, hBl]
          exact hK _ _ (Below.refl _ _) rfl
          | 2, _ =>
          obtain rfl := Option.some.inj hoq
          intro a1 w1 K hk hK
          have e5 : a1.tmps.getD 5 undef = .pointer (some ⟨w.heap.size, 0, none⟩) := hk.same 5 (by simp)
          simp [Region.wanted, Oper.wp, Act.eval, go_sem, e5, hgt, h1, f1, f2, hBl]
          exact hK _ _ (Below.refl _ _) rfl
          | 3, _ =>
          obtain rfl := Option.some.inj hoq
          intro a1 w1 K hk hK
          have d101 : a1.tmps.getD 101 undef = .pointer (some ⟨w.heap.size, 1, none⟩) := hk.deps ⟨2, .data⟩ (by simp) rfl _ _ rfl rfl
          have c0 : w1.cell? ⟨w.heap.size, 1, none⟩ = some (.slice A2 p.length c2) := Below.keeps hk.ext _ _ (by simp [go_sem, hgt, h1, f1, f2, hBl])
          have c1 : w1.cell? ⟨w.heap.size, 2, none⟩ = some (.int .u64 (v : Nat)) := Below.keeps hk.ext _ _ (by simp [go_sem, hgt, h1, f1, f2, hBl])
          simp [Region.wanted, Oper.wp, Act.eval, go_sem, d101, c0, c1, hgt, h1, f1, f2, hBl]
          exact hK _ _ (Below.refl _ _) rfl
          | 4, _ =>
          obtain rfl := Option.some.inj hoq
          intro a1 w1 K hk hK
          have e5 : a1.tmps.getD 5 undef = .pointer (some ⟨w.heap.size, 0, none⟩) := hk.same 5 (by simp)
          simp [Region.wanted, Oper.wp, Act.eval, go_sem, e5, hgt, h1, f1, f2, hBl]
          exact hK _ _ (Below.refl _ _) rfl
          | 5, _ =>
          obtain rfl := Option.some.inj hoq
          intro a1 w1 K hk hK
          have d103 : a1.tmps.getD 103 undef = .pointer (some ⟨w.heap.size, 2, none⟩) := hk.deps ⟨4, .data⟩ (by simp) rfl _ _ rfl rfl
          have c0 : w1.cell? ⟨w.heap.size, 1, none⟩ = some (.slice A2 p.length c2) := Below.keeps hk.ext _ _ (by simp [go_sem, hgt, h1, f1, f2, hBl])
          have c1 : w1.cell? ⟨w.heap.size, 2, none⟩ = some (.int .u64 (v : Nat)) := Below.keeps hk.ext _ _ (by simp [go_sem, hgt, h1, f1, f2, hBl])
          simp [Region.wanted, Oper.wp, Act.eval, go_sem, d103, c0, c1, hgt, h1, f1, f2, hBl]
          exact hK _ _ (Below.refl _ _) rfl
          | 6, _ =>
          obtain rfl := Option.some.inj hoq
          intro a1 w1 K hk hK
          have d100 : a1.tmps.getD 100 undef = .slice AI l.length cI := hk.deps ⟨1, .data⟩ (by simp) rfl _ _ rfl rfl
          have d102 : a1.tmps.getD 102 undef = .slice A2 p.length c2 := hk.deps ⟨3, .data⟩ (by simp) rfl _ _ rfl rfl
          have d104 : a1.tmps.getD 104 undef = .int .u64 (v : Nat) := hk.deps ⟨5, .data⟩ (by simp) rfl _ _ rfl rfl
          simp [Region.wanted, Oper.wp, Act.eval, go_sem, d100, d102, d104, hgt, h1, f1, f2, hBl]
          refine (HRP.out _ (HN2.out.2.trans ((show Below w2.heap.size w2 _ from below_trans (by repeat (first | exact Below.refl _ _ | (refine Below.drew ?_) | (refine below_drewN' ?_ _) | (refine below_alloc' ?_ _) | (refine Below.setCell ?_ (by first | exact Nat.le_refl _ | (simp; done) | (simp; omega)) _))) hk.ext).mono HN2.out.2.size))).mono ?_
          rintro e w9 ⟨v9, rfl, h9, hb9⟩
          exact hK _ _ hb9 h9
          | 7, _ =>
          obtain rfl := Option.some.inj hoq
          intro a1 w1 K hk hK
          have e15 : a1.tmps.getD 15 undef = .int .i64 0 := hk.same 15 (by simp)
          simp [Region.wanted, Oper.wp, Act.eval, go_sem, e15, hgt, h1, f1, f2, hBl]
          exact hK _ _ (Below.refl _ _) rfl
          | 8, _ =>
          obtain rfl := Option.some.inj hoq
          intro a1 w1 K hk hK
          have d106 : a1.tmps.getD 106 undef = .int .i64 0 := hk.deps ⟨7, .data⟩ (by simp) rfl _ _ rfl rfl
          simp [Region.wanted, Oper.wp, Act.eval, go_sem, d106, hgt, h1, f1, f2, hBl]
          exact hK _ _ (Below.refl _ _) rfl
          | 9, _ =>
          obtain rfl := Option.some.inj hoq
          intro a1 w1 K hk hK
          have d107 : a1.tmps.getD 107 undef = .bool true := hk.deps ⟨8, .data⟩ (by simp) rfl _ _ rfl rfl
          simp [Region.wanted, Oper.wp, Act.eval, go_sem, d107, hgt, h1, f1, f2, hBl]
          exact hK _ _ (Below.refl _ _) rfl
          | 10, _ =>
          obtain rfl := Option.some.inj hoq
          intro a1 w1 K hk hK
          have e14 : a1.tmps.getD 14 undef = .pointer (some ⟨g, 0, none⟩) := hk.same 14 (by simp)
          have gd : a1.tmps[108]? = some (.bool true) := getD_bool (hk.deps ⟨9, .guard⟩ (by simp) rfl _ _ rfl rfl)
          simp [Region.wanted, Oper.wp, Act.eval, go_sem, e14, gd, yielded, hgt, h1, f1, f2, hBl]
          exact hK _ _ (Below.refl _ _) rfl
          | 11, _ =>
          obtain rfl := Option.some.inj hoq
          intro a1 w1 K hk hK
          have d109 : a1.tmps.getD 109 undef = .pointer (some ⟨g, 0, none⟩) := hk.deps ⟨10, .data⟩ (by simp) rfl _ _ rfl rfl
          have gd : a1.tmps[108]? = some (.bool true) := getD_bool (hk.deps ⟨9, .guard⟩ (by simp) rfl _ _ rfl rfl)
          simp [Region.wanted, Oper.wp, Act.eval, go_sem, d109, gd, yielded, hgt, h1, f1, f2, hBl]
          exact hK _ _ (Below.refl _ _) rfl
          | 12, _ =>
          obtain rfl := Option.some.inj hoq
          intro a1 w1 K hk hK
          have d108 : a1.tmps.getD 108 undef = .bool true := hk.deps ⟨9, .data⟩ (by simp) rfl _ _ rfl rfl
          have d110 : a1.tmps.getD 110 undef = .bool true := hk.deps ⟨11, .data⟩ (by simp) rfl _ _ rfl rfl
          simp [Region.wanted, Oper.wp, Act.eval, go_sem, d108, d110, hgt, h1, f1, f2, hBl]
          exact hK _ _ (Below.refl _ _) rfl
          | 13, _ =>
          obtain rfl := Option.some.inj hoq
          intro a1 w1 K hk hK
          have d111 : a1.tmps.getD 111 undef = .bool true := hk.deps ⟨12, .data⟩ (by simp) rfl _ _ rfl rfl
          simp [Region.wanted, Oper.wp, Act.eval, go_sem, d111, hgt, h1, f1, f2, hBl]
          exact hK _ _ (Below.refl _ _) rfl
          | 14, _ =>
          obtain rfl := Option.some.inj hoq
          intro a1 w1 K hk hK
          have e17 : a1.tmps.getD 17 undef = .bool true := hk.same 17 (by simp)
          have gd : a1.tmps[112]? = some (.bool true) := getD_bool (hk.deps ⟨13, .guard⟩ (by simp) rfl _ _ rfl rfl)
          simp [Region.wanted, Oper.wp, Act.eval, go_sem, e17, gd, yielded, hgt, h1, f1, f2, hBl]
          exact hK _ _ (Below.refl _ _) rfl
          | 15, _ =>
          obtain rfl := Option.some.inj hoq
          intro a1 w1 K hk hK
          have d113 : a1.tmps.getD 113 undef = .bool true := hk.deps ⟨14, .data⟩ (by simp) rfl _ _ rfl rfl
          have gd : a1.tmps[112]? = some (.bool true) := getD_bool (hk.deps ⟨13, .guard⟩ (by simp) rfl _ _ rfl rfl)
          simp [Region.wanted, Oper.wp, Act.eval, go_sem, d113, gd, yielded, hgt, h1, f1, f2, hBl]
          exact hK _ _ (Below.refl _ _) rfl
          | 16, _ =>
          obtain rfl := Option.some.inj hoq
          intro a1 w1 K hk hK
          have e16 : a1.tmps.getD 16 undef = .int .u64 (x : Nat) := hk.same 16 (by simp)
          have gd : a1.tmps[114]? = some (.bool true) := getD_bool (hk.deps ⟨15, .guard⟩ (by simp) rfl _ _ rfl rfl)
          simp [Region.wanted, Oper.wp, Act.eval, go_sem, e16, gd, yielded, hgt, h1, f1, f2, hBl]
          exact hK _ _ (Below.refl _ _) rfl
          | 17, _ =>
          obtain rfl := Option.some.inj hoq
          intro a1 w1 K hk hK
          have e5 : a1.tmps.getD 5 undef = .pointer (some ⟨w.heap.size, 0, none⟩) := hk.same 5 (by simp)
          have gd : a1.tmps[114]? = some (.bool true) := getD_bool (hk.deps ⟨15, .guard⟩ (by simp) rfl _ _ rfl rfl)
          simp [Region.wanted, Oper.wp, Act.eval, go_sem, e5, gd, yielded, hgt, h1, f1, f2, hBl]
          exact hK _ _ (Below.refl _ _) rfl
          | 18, _ =>
          obtain rfl := Option.some.inj hoq
          intro a1 w1 K hk hK
          have d116 : a1.tmps.getD 116 undef = .pointer (some ⟨w.heap.size, 2, none⟩) := hk.deps ⟨17, .data⟩ (by simp) rfl _ _ rfl rfl
          have gd : a1.tmps[114]? = some (.bool true) := getD_bool (hk.deps ⟨15, .guard⟩ (by simp) rfl _ _ rfl rfl)
          have c0 : w1.cell? ⟨w.heap.size, 1, none⟩ = some (.slice A2 p.length c2) := Below.keeps hk.ext _ _ (by simp [go_sem, hgt, h1, f1, f2, hBl])
          have c1 : w1.cell? ⟨w.heap.size, 2, none⟩ = some (.int .u64 (v : Nat)) := Below.keeps hk.ext _ _ (by simp [go_sem, hgt, h1, f1, f2, hBl])
          simp [Region.wanted, Oper.wp, Act.eval, go_sem, d116, gd, yielded, c0, c1, hgt, h1, f1, f2, hBl]
          exact hK _ _ (Below.refl _ _) rfl
          | 19, _ =>
          obtain rfl := Option.some.inj hoq
          intro a1 w1 K hk hK
          have d115 : a1.tmps.getD 115 undef = .int .u64 (x : Nat) := hk.deps ⟨16, .data⟩ (by simp) rfl _ _ rfl rfl
          have d117 : a1.tmps.getD 117 undef = .int .u64 (v : Nat) := hk.deps ⟨18, .data⟩ (by simp) rfl _ _ rfl rfl
          have gd : a1.tmps[114]? = some (.bool true) := getD_bool (hk.deps ⟨15, .guard⟩ (by simp) rfl _ _ rfl rfl)
          simp [Region.wanted, Oper.wp, Act.eval, go_sem, d115, d117, gd, yielded, hgt, h1, f1, f2, hBl]
          exact hK _ _ (Below.refl _ _) rfl
          | 20, _ =>
          obtain rfl := Option.some.inj hoq
          intro a1 w1 K hk hK
          have d114 : a1.tmps.getD 114 undef = .bool true := hk.deps ⟨15, .data⟩ (by simp) rfl _ _ rfl rfl
          have d118 : a1.tmps.getD 118 undef = .bool false := hk.deps ⟨19, .data⟩ (by simp) rfl _ _ rfl rfl
          have gd : a1.tmps[112]? = some (.bool true) := getD_bool (hk.deps ⟨13, .guard⟩ (by simp) rfl _ _ rfl rfl)
          simp [Region.wanted, Oper.wp, Act.eval, go_sem, d114, d118, gd, yielded, hgt, h1, f1, f2, hBl]
          exact hK _ _ (Below.refl _ _) rfl
          | 21, _ =>
          obtain rfl := Option.some.inj hoq
          intro a1 w1 K hk hK
          have e14 : a1.tmps.getD 14 undef = .pointer (some ⟨g, 0, none⟩) := hk.same 14 (by simp)
          have gd : a1.tmps[112]? = some (.bool true) := getD_bool (hk.deps ⟨13, .guard⟩ (by simp) rfl _ _ rfl rfl)
          simp [Region.wanted, Oper.wp, Act.eval, go_sem, e14, gd, yielded, hgt, h1, f1, f2, hBl]
          exact hK _ _ (Below.refl _ _) rfl
          | 22, _ =>
          obtain rfl := Option.some.inj hoq
          intro a1 w1 K hk hK
          have e0 : a1.tmps.getD 0 undef = .pointer (some ⟨t, 0, none⟩) := hk.same 0 (by simp)
          have gd : a1.tmps[112]? = some (.bool true) := getD_bool (hk.deps ⟨13, .guard⟩ (by simp) rfl _ _ rfl rfl)
          simp [Region.wanted, Oper.wp, Act.eval, go_sem, e0, gd, yielded, hgt, h1, f1, f2, hBl]
          exact hK _ _ (Below.refl _ _) rfl
          | 23, _ =>
          obtain rfl := Option.some.inj hoq
          intro a1 w1 K hk hK
          have d120 : a1.tmps.getD 120 undef = .pointer (some ⟨g, 0, none⟩) := hk.deps ⟨21, .data⟩ (by simp) rfl _ _ rfl rfl
          have d121 : a1.tmps.getD 121 undef = .pointer (some ⟨t, 0, none⟩) := hk.deps ⟨22, .data⟩ (by simp) rfl _ _ rfl rfl
          have gd : a1.tmps[112]? = some (.bool true) := getD_bool (hk.deps ⟨13, .guard⟩ (by simp) rfl _ _ rfl rfl)
          simp [Region.wanted, Oper.wp, Act.eval, go_sem, d120, d121, gd, yielded, hgt, h1, f1, f2, hBl]
          rw [HEQ.out w1 (below_trans (by repeat (first | exact Below.refl _ _ | (refine Below.drew ?_) | (refine below_drewN' ?_ _) | (refine below_alloc' ?_ _) | (refine Below.setCell ?_ (by first | exact Nat.le_refl _ | (simp; done) | (simp; omega)) _))) hk.ext)]
          exact hK _ _ (Below.refl _ _) rfl
          | 24, _ =>
          obtain rfl := Option.some.inj hoq
          intro a1 w1 K hk hK
          have d119 : a1.tmps.getD 119 undef = .bool false := hk.deps ⟨20, .data⟩ (by simp) rfl _ _ rfl rfl
          have d122 : a1.tmps.getD 122 undef = .bool false := hk.deps ⟨23, .data⟩ (by simp) rfl _ _ rfl rfl
          have gd : a1.tmps[112]? = some (.bool true) := getD_bool (hk.deps ⟨13, .guard⟩ (by simp) rfl _ _ rfl rfl)
          simp [Region.wanted, Oper.wp, Act.eval, go_sem, d119, d122, gd, yielded, hgt, h1, f1, f2, hBl]
          exact hK _ _ (Below.refl _ _) rfl
          | 25, _ =>
          obtain rfl := Option.some.inj hoq
          intro a1 w1 K hk hK
          have d112 : a1.tmps.getD 112 undef = .bool true := hk.deps ⟨13, .data⟩ (by simp) rfl _ _ rfl rfl
          have d123 : a1.tmps.getD 123 undef = .bool true := hk.deps ⟨24, .data⟩ (by simp) rfl _ _ rfl rfl
          simp [Region.wanted, Oper.wp, Act.eval, go_sem, d112, d123, hgt, h1, f1, f2, hBl]
          exact hK _ _ (Below.refl _ _) rfl
          | 26, _ =>
          obtain rfl := Option.some.inj hoq
          intro a1 w1 K hk hK
          have d99 : a1.tmps.getD 99 undef = .pointer (some ⟨g, 0, none⟩) := hk.deps ⟨0, .data⟩ (by simp) rfl _ _ rfl rfl
          simp [Region.wanted, Oper.wp, Act.eval, go_sem, d99, hgt, h1, f1, f2, hBl]
          exact hK _ _ (Below.refl _ _) rfl
          | 27, _ =>
          obtain rfl := Option.some.inj hoq
          intro a1 w1 K hk hK
          have D105 : RdE w1 (a1.tmps.getD 105 undef) (insE p v l) := hk.deps ⟨6, .data⟩ (by simp) rfl _ _ rfl rfl
          simp [Region.wanted, Oper.wp, Act.eval, go_sem, hgt, h1, f1, f2, hBl]
          exact hK _ _ (Below.refl _ _) (by simpa [nthV] using D105)
          | k + 28, hk => exact absurd hk (by omega)
        · intro vs w3 hl hb3 hv
          match vs, hl with
          | v0 :: v1 :: v2 :: v3 :: v4 :: v5 :: v6 :: v7 :: v8 :: v9 :: v10 :: v11 :: v12 :: v13 :: v14 :: v15 :: v16 :: v17 :: v18 :: v19 :: v20 :: v21 :: v22 :: v23 :: v24 :: v25 :: v26 :: v27 :: [], _ =>
          obtain rfl : v0 = .pointer (some ⟨g, 0, none⟩) := hv 0 (by omega)
          obtain rfl : v1 = .slice AI l.length cI := hv 1 (by omega)
          obtain rfl : v2 = .pointer (some ⟨w.heap.size, 1, none⟩) := hv 2 (by omega)
          obtain rfl : v3 = .slice A2 p.length c2 := hv 3 (by omega)
          obtain rfl : v4 = .pointer (some ⟨w.heap.size, 2, none⟩) := hv 4 (by omega)
          obtain rfl : v5 = .int .u64 (v : Nat) := hv 5 (by omega)
          have q6 : RdE w3 v6 (insE p v l) := hv 6 (by omega)
          obtain rfl : v7 = .int .i64 0 := hv 7 (by omega)
          obtain rfl : v8 = .bool true := hv 8 (by omega)
          obtain rfl : v9 = .bool true := hv 9 (by omega)
          obtain rfl : v10 = .pointer (some ⟨g, 0, none⟩) := hv 10 (by omega)
          obtain rfl : v11 = .bool true := hv 11 (by omega)
          obtain rfl : v12 = .bool true := hv 12 (by omega)
          obtain rfl : v13 = .bool true := hv 13 (by omega)
          obtain rfl : v14 = .bool true := hv 14 (by omega)
          obtain rfl : v15 = .bool true := hv 15 (by omega)
          obtain rfl : v16 = .int .u64 (x : Nat) := hv 16 (by omega)
          obtain rfl : v17 = .pointer (some ⟨w.heap.size, 2, none⟩) := hv 17 (by omega)
          obtain rfl : v18 = .int .u64 (v : Nat) := hv 18 (by omega)
          obtain rfl : v19 = .bool false := hv 19 (by omega)
          obtain rfl : v20 = .bool false := hv 20 (by omega)
          obtain rfl : v21 = .pointer (some ⟨g, 0, none⟩) := hv 21 (by omega)
          obtain rfl : v22 = .pointer (some ⟨t, 0, none⟩) := hv 22 (by omega)
          obtain rfl : v23 = .bool false := hv 23 (by omega)
          obtain rfl : v24 = .bool true := hv 24 (by omega)
          obtain rfl : v25 = .bool true := hv 25 (by omega)
          obtain rfl : v26 = .pointer (some ⟨g, 0, none⟩) := hv 26 (by omega)
          have q27 : RdE w3 v27 (insE p v l) := hv 27 (by omega)
          clear hv
          simp only [putAll, List.take_succ_cons, List.take_zero, List.drop_succ_cons, List.drop_zero, Act.put, List.setIfInBounds_toArray, List.set_cons_succ, List.set_cons_zero]
          have hb4 : Below w2.heap.size w2 w3 := below_trans (by repeat (first | exact Below.refl _ _ | (refine Below.drew ?_) | (refine below_drewN' ?_ _) | (refine below_alloc' ?_ _) | (refine Below.setCell ?_ (by first | exact Nat.le_refl _ | (simp; done) | (simp; omega)) _))) hb3
          have HF := Lib.hid (And.intro (HN2.out.1.bel hb4) (And.intro q27 (HN2.out.2.trans (hb4.mono HN2.out.2.size))))
          clear q6 q27 hb3 hb4
          go_wp2_with fail
          ((try simp only [Exit.inBlock, Exit.then]); refine bodyPost_ret (results_tmp3 rfl _ _ _) rfl ?_)
          rw [HST.out]
          exact ⟨g, _, rfl, HF.out⟩
  · have HTD := Lib.hid (fun w1 (hb : Below w.heap.size w w1) => tput_dim w1 t k p.length c2 v A2 l (ht.bel hb) hk)
    have HST := Lib.hid (show stepL k l ⟨false, p, v⟩ = l by unfold stepL; rw [if_neg hk])
    have hn : ((p.length : Int) != (k : Int)) = true := by simp; omega
    have hn2 : ¬ (p.length : Int) = (k : Int) := by omega
    clear ht hp ho hl hk
    go_enter Tryz.func73, Tryz.ntmps73
    go_wp2_with fail
    refine (HTK.out _ (by repeat (first | exact Below.refl _ _ | (refine Below.drew ?_) | (refine below_drewN' ?_ _) | (refine below_alloc' ?_ _) | (refine Below.setCell ?_ (by first | exact Nat.le_refl _ | (simp; done) | (simp; omega)) _)))).mono ?_
    rintro e w1 ⟨rfl, hw⟩
    obtain rfl := hw.symm
    go_wp2_with fail
    refine (HTD.out _ (by repeat (first | exact Below.refl _ _ | (refine Below.drew ?_) | (refine below_drewN' ?_ _) | (refine below_alloc' ?_ _) | (refine Below.setCell ?_ (by first | exact Nat.le_refl _ | (simp; done) | (simp; omega)) _)))).mono ?_
    rintro e w1 ⟨rfl, hw⟩
    obtain rfl := hw.symm
    go_wp2_with fail
    ((try simp only [Exit.inBlock, Exit.then]); refine bodyPost_ret (results_tmp3 rfl _ _ _) rfl ?_)
    rw [HST.out]
    exact ⟨t, _, rfl, HT.out.1.bel (by repeat (first | exact Below.refl _ _ | (refine Below.drew ?_) | (refine below_drewN' ?_ _) | (refine below_alloc' ?_ _) | (refine Below.setCell ?_ (by first | exact Nat.le_refl _ | (simp; done) | (simp; omega)) _))), HT.out.2.below (by repeat (first | exact Below.refl _ _ | (refine Below.drew ?_) | (refine below_drewN' ?_ _) | (refine below_alloc' ?_ _) | (refine Below.setCell ?_ (by first | exact Nat.le_refl _ | (simp; done) | (simp; omega)) _))), (by repeat (first | exact Below.refl _ _ | (refine Below.drew ?_) | (refine below_drewN' ?_ _) | (refine below_alloc' ?_ _) | (refine Below.setCell ?_ (by first | exact Nat.le_refl _ | (simp; done) | (simp; omega)) _)))⟩
theorem done_any (w : World) (t k : Nat) (a : Ac) (l : List En) (vin vp : Value) (ht : TrR w t k l) (hin : RdE w vin l) (hl : EtS k l) (hp : RdU w vp (pti a.p)) (ho : a.Ok) :
    Calls Tryz.prog 73 #[.pointer (some ⟨t, 0, none⟩), vin, .agg #[.bool a.del, vp, .int .u64 (a.v : Nat)]] w fun e w' => DoneP w k (stepL k l a) e w' := by
  obtain ⟨d, p, v⟩ := a
  cases d with
  | true => exact done_del w t k p v l vin vp ht hin hl hp ho
  | false => exact done_put w t k p v l vin vp ht hin hl hp ho
end Go.Proofs.YtdkomhmciihkiaaGreat
/-! TrG -/
namespace Go.Proofs.YtdkomhmciihkiaaGreat
open Go.RowKit
set_option linter.unusedVariables false
set_option linter.unusedSimpArgs false

/-- an act at a block's offset -/
def AcAt (w : World) (b o : Nat) (a : Ac) : Prop := ∃ u, w.cell? ⟨b, o, none⟩ = some (.bool a.del) ∧ w.cell? ⟨b, o + 1, none⟩ = some u ∧ RdU w u (pti a.p) ∧ w.cell? ⟨b, o + 2, none⟩ = some (.int .u64 (a.v : Nat))
theorem AcAt.keep {w w' : World} {b o : Nat} {a : Ac} (h : AcAt w b o a) (hk : ∀ a x, w.cell? a = some x → w'.cell? a = some x) : AcAt w' b o a := by
  obtain ⟨u, h0, h1, h2, h3⟩ := h
  exact ⟨u, hk _ _ h0, hk _ _ h1, RdU.keep h2 hk, hk _ _ h3⟩
/-- the slice value v reads as the list l of acts -/
def RdA (w : World) (v : Value) (l : List Ac) : Prop :=
  ∃ A c, v = .slice A l.length c ∧ (0 < l.length → ∃ b o, A = some ⟨b, o, none⟩ ∧ ∀ j (h : j < l.length), AcAt w b (o + j * 3) l[j])
theorem RdA.keep {w w' : World} {v : Value} {l : List Ac} (h : RdA w v l) (hk : ∀ a x, w.cell? a = some x → w'.cell? a = some x) : RdA w' v l := by
  obtain ⟨A, c, e, h⟩ := h
  exact ⟨A, c, e, fun hp => let ⟨b, o, ha, hc⟩ := h hp; ⟨b, o, ha, fun j hj => (hc j hj).keep hk⟩⟩
theorem RdA.below {w w' : World} {v : Value} {l : List Ac} (h : RdA w v l) (hb : Below w.heap.size w w') : RdA w' v l := RdA.keep h (Below.keeps hb)
def playL (k : Nat) (l : List En) (acts : List Ac) : List En := acts.foldl (stepL k) l
theorem play_take (k : Nat) (l : List En) (acts : List Ac) (j : Nat) (h : j < acts.length) : playL k l (acts.take (j + 1)) = stepL k (playL k l (acts.take j)) acts[j] := by
  unfold playL
  rw [← List.take_append_getElem h, List.foldl_append]
  rfl
theorem play_len (k : Nat) (l : List En) (acts : List Ac) : (playL k l acts).length ≤ l.length + acts.length := by
  induction acts generalizing l with
  | nil => exact Nat.le_refl _
  | cons a acts ih =>
    have h1 := ih (stepL k l a)
    have h2 := step_len k l a
    show (playL k (stepL k l a) acts).length ≤ _
    simp only [List.length_cons]
    omega
theorem Et.play {k : Nat} {l : List En} (h : Et k l) (acts : List Ac) (ho : ∀ a ∈ acts, a.Ok) : Et k (playL k l acts) := by
  induction acts generalizing l with
  | nil => exact h
  | cons a acts ih => exact ih (h.step a (ho a (by simp))) fun b hb => ho b (by simp [hb])
theorem EtS.play {k : Nat} {l : List En} (h : EtS k l) (acts : List Ac) (ho : ∀ a ∈ acts, a.Ok) (hs : l.length + acts.length ≤ 1000) : EtS k (playL k l acts) :=
  ⟨h.et.play acts ho, h.k40, Nat.le_trans (play_len k l acts) hs⟩
def heavyL (l : List Ac) (most : Int) : Bool := decide ((l.length : Int) > most) || l.any fun a => decide (a.p.length > 40)
set_option maxRecDepth 100000
theorem heavyA_any (w : World) (l : List Ac) (v : Value) (most : Int) (hv : RdA w v l) (hl : l.length ≤ maxLen) :
    Calls Tryz.prog 20 #[v, .int .i64 most] w fun e w' => e = .returned (.bool (heavyL l most)) ∧ w' = w := by
  obtain ⟨A, c, rfl, hx⟩ := hv
  have HX := Lib.hid hx
  have HL := Lib.hid (show l.length ≤ 9223372036854775807 from Nat.le_trans hl (by decide))
  clear hx hl
  by_cases hm : (l.length : Int) > most
  · have HH := Lib.hid (show heavyL l most = true by unfold heavyL; rw [decide_eq_true hm]; rfl)
    go_enter Tryz.func20, Tryz.ntmps20
    go_wp2_with fail
    go_ret
    exact ⟨by rw [HH.out] <;> rfl, rfl⟩
  · have hh : heavyL l most = l.any fun a => decide (a.p.length > 40) := by unfold heavyL; rw [decide_eq_false hm]; rfl
    have HH := Lib.hid hh
    clear hh
    go_enter Tryz.func20, Tryz.ntmps20
    go_wp2_with fail
    go_loopw [5] (fun iv wr => ∃ j : Nat, j ≤ l.length ∧ iv = .int .i64 (j : Nat) ∧ wr = w ∧ (l.take j).any (fun a => decide (a.p.length > 40)) = false) (fun iv _ => l.length - (intOf iv).toNat)
    case atStart => exact ⟨0, Nat.zero_le _, rfl, rfl, by simp⟩
    case round =>
      obtain ⟨j, hj, rfl, hw, hany⟩ := hrel
      subst hw
      by_cases hlt : j < l.length
      · have h3 : (j : Int) < (l.length : Int) := by omega
        have h5 : (0 : Int) ≤ (j : Int) := by omega
        have HW := Lib.hid (show wrap64 ((j : Int) + 1) = ((j + 1 : Nat) : Int) by have := HL.out; unfold wrap64; omega)
        obtain ⟨b2, o2, rfl, hc⟩ := HX.out (by omega)
        obtain ⟨u, k0, k1, ku, k2⟩ := hc j hlt
        have htk : (l.take (j + 1)).any (fun a => decide (a.p.length > 40)) = decide (l[j].p.length > 40) := by rw [← List.take_append_getElem hlt, List.any_append, hany]; simp
        have hall : decide (l[j].p.length > 40) = true → (l.any fun a => decide (a.p.length > 40)) = true := fun h => List.any_eq_true.2 ⟨_, List.getElem_mem hlt, h⟩
        have HT := Lib.hid (And.intro htk hall)
        have hlb := World.block_lt_of_cell? _ _ k0
        obtain ⟨Au, cu, rfl, _⟩ := RdU.point ku
        generalize l[j] = ac at *
        clear hc htk hall ku hany
        by_cases h40 : (ac.p.length : Int) > 40
        · go_wp2_with fail
          go_ret
          exact ⟨by rw [HH.out, HT.out.2 (by simp; omega)] <;> rfl, rfl⟩
        · go_wp2_with fail
          go_roundw
          case rel => exact ⟨j + 1, by omega, (by first | rw [HW.out] | rfl | simp), (by first | rfl | trivial), by rw [HT.out.1]; simp; omega⟩
          case measure => (first | (rw [intOf_of' HW.out, intOf_of' rfl]; omega) | (simp [intOf]; omega) | (simp [intOf] <;> omega))
      · have h3 : ¬ (j : Int) < (l.length : Int) := by omega
        rw [List.take_of_length_le (by omega)] at hany
        have HA := Lib.hid hany
        clear hany
        go_wp2_with fail
        go_ret
        exact ⟨by rw [HH.out, HA.out] <;> rfl, rfl⟩
set_option maxHeartbeats 4000000 in
theorem grown_any (w : World) (k : Nat) (acts : List Ac) (v : Value) (k1 : 1 ≤ k) (k16 : k ≤ 16) (hv : RdA w v acts) (ho : ∀ a ∈ acts, a.Ok) (hl : acts.length ≤ 900) :
    Calls Tryz.prog 21 #[.int .i64 (k : Nat), v] w fun e w' => DoneP w k (playL k [] acts) e w' := by
  have HNW := Lib.hid (tnew_any w k k1 k16)
  have HD := Lib.hid (And.intro k16 hl)
  have HA := Lib.hid hv
  have HO := Lib.hid ho
  obtain ⟨A, c, rfl, hx⟩ := hv
  have HX := Lib.hid hx
  clear k1 k16 ho hl hx
  go_enter Tryz.func21, Tryz.ntmps21
  go_wp2_with fail
  refine HNW.out.mono ?_
  rintro e w1 ⟨t, rfl, ht, hb⟩
  have HT := Lib.hid (And.intro ht hb)
  clear ht hb
  go_wp2_with fail
  go_loopw [7, 9, 10, 11, 12, 13] (fun tv vin iv _ _ _ wr => ∃ (t' j : Nat), j ≤ acts.length ∧ tv = .pointer (some ⟨t', 0, none⟩) ∧ iv = .int .i64 (j : Nat) ∧ TrR wr t' k (playL k [] (acts.take j)) ∧ RdE wr vin (playL k [] (acts.take j)) ∧ Below w.heap.size w wr) (fun _ _ iv _ _ _ _ => acts.length - (intOf iv).toNat)
  case atStart => exact ⟨t, 0, Nat.zero_le _, rfl, rfl, HT.out.1.bel (by repeat (first | exact Below.refl _ _ | (refine Below.drew ?_) | (refine below_drewN' ?_ _) | (refine below_alloc' ?_ _) | (refine Below.setCell ?_ (by first | exact Nat.le_refl _ | (simp; done) | (simp; omega)) _))), ⟨_, _, rfl, ⟨Nat.le_refl _, Nat.zero_le _, fun h => absurd h (by omega)⟩, fun h => absurd h (by simp [playL])⟩, (by repeat (first | exact HT.out.2 | (refine Below.drew ?_) | (refine below_alloc' ?_ _)))⟩
  case round =>
    obtain ⟨t', j, hj, rfl, rfl, ht, hin, hb⟩ := hrel
    by_cases hlt : j < acts.length
    · have h3 : (j : Int) < (acts.length : Int) := by omega
      have h5 : (0 : Int) ≤ (j : Int) := by omega
      have HW := Lib.hid (show wrap64 ((j : Int) + 1) = ((j + 1 : Nat) : Int) by have := HD.out.2; unfold wrap64; omega)
      obtain ⟨b2, o2, rfl, hc⟩ := HX.out (by omega)
      obtain ⟨u, k0, k1, ku, k2⟩ := (hc j hlt).keep (Below.keeps hb)
      have hoj := HO.out acts[j] (List.getElem_mem hlt)
      have hpl := play_take k [] acts j hlt
      have HES : EtS k (playL k [] (acts.take j)) := EtS.play ⟨Et.nil k, by have := HD.out.1; omega, by simp⟩ _ (fun a ha => HO.out a (List.mem_of_mem_take ha)) (by rw [List.length_nil, List.length_take]; have := HD.out.2; omega)
      have HDN := Lib.hid (done_any wr t' k acts[j] _ _ _ ht hin HES ku hoj)
      rw [← hpl] at HDN
      have HB := Lib.hid hb
      have hlb := World.block_lt_of_cell? wr _ k0
      obtain ⟨Au, cu, rfl, _⟩ := RdU.point ku
      obtain ⟨AI, cI, rfl, _⟩ := hin
      generalize acts[j] = ac at *
      generalize playL k [] (acts.take j) = l1 at *
      clear hc hoj HES hpl hb ht ku
      go_wp2_with fail
      refine HDN.out.mono ?_
      rintro e w2 ⟨t2, vin2, rfl, ht2, hin2, hb2⟩
      have HN := Lib.hid (And.intro ht2 (And.intro hin2 (HB.out.trans (hb2.mono HB.out.size))))
      clear ht2 hin2 hb2
      go_wp2_with fail
      go_roundw
      case rel => exact ⟨t2, j + 1, by omega, rfl, (by first | rw [HW.out] | rfl | simp), HN.out.1, HN.out.2.1, HN.out.2.2⟩
      case measure => (first | (rw [intOf_of' HW.out, intOf_of' rfl]; omega) | (simp [intOf]; omega) | (simp [intOf] <;> omega))
    · have h3 : ¬ (j : Int) < (acts.length : Int) := by omega
      have e : acts.take j = acts := List.take_of_length_le (by omega)
      rw [e] at ht hin
      have HN := Lib.hid (And.intro ht (And.intro hin hb))
      obtain ⟨AI, cI, rfl, _⟩ := hin
      clear ht hb
      go_wp2_with fail
      ((try simp only [Exit.inBlock, Exit.then]); refine bodyPost_ret (results_tmp3 rfl _ _ _) rfl ?_)
      exact ⟨t', _, rfl, HN.out⟩
end Go.Proofs.YtdkomhmciihkiaaGreat
/-! RefA -/
namespace Go.Proofs.YtdkomhmciihkiaaGreat
open Go.RowKit
set_option linter.unusedVariables false
set_option linter.unusedSimpArgs false

theorem cut_step (c n k : Nat) (h : n ≤ k) : c % 2 ^ (k + 1) / 2 ^ n * 2 ^ n = c % 2 ^ k / 2 ^ n * 2 ^ n + Zb.bit c k * 2 ^ k := by
  obtain ⟨j, rfl⟩ : ∃ j, k = n + j := ⟨k - n, by omega⟩
  have h1 : c % 2 ^ (n + j + 1) = c % 2 ^ (n + j) + 2 ^ (n + j) * Zb.bit c (n + j) := by unfold Zb.bit; exact Nat.mod_pow_succ
  rw [h1, Nat.pow_add 2 n j, Nat.mul_assoc (2 ^ n), Nat.add_mul_div_left _ _ (Nat.two_pow_pos n), Nat.add_mul]
  congr 1
  rw [Nat.mul_comm (Zb.bit c (n + j)), Nat.mul_comm _ (2 ^ n), ← Nat.mul_assoc]
theorem cut_all (c n : Nat) (h : c < 2 ^ 64) : c % 2 ^ 64 / 2 ^ n * 2 ^ n = c / 2 ^ n * 2 ^ n := by rw [Nat.mod_eq_of_lt h]
theorem cut_none (c n : Nat) : c % 2 ^ n / 2 ^ n * 2 ^ n = 0 := by rw [Nat.div_eq_of_lt (Nat.mod_lt _ (Nat.two_pow_pos n)), Nat.zero_mul]
set_option maxRecDepth 100000
theorem rPow_any (n : Nat) (w : World) (hn : n ≤ 40) : Calls Tryz.prog 242 #[.int .i64 (n : Nat)] w fun e w' => e = .returned (.int .u64 (2 ^ n : Nat)) ∧ w' = w := by
  have HN := Lib.hid hn
  clear hn
  go_enter Tryz.func242, Tryz.ntmps242
  go_wp2_with fail
  go_loopw [3, 4] (fun xv iv wr => ∃ j : Nat, j ≤ n ∧ xv = .int .u64 (2 ^ j : Nat) ∧ iv = .int .i64 (j : Nat) ∧ wr = w) (fun _ iv _ => n - (intOf iv).toNat)
  case atStart => exact ⟨0, Nat.zero_le _, rfl, rfl, rfl⟩
  case round =>
    obtain ⟨j, hj, hx, rfl, hw⟩ := hrel
    subst hw
    by_cases hlt : j < n
    · have h3 : (j : Int) < (n : Int) := by omega
      have HW := Lib.hid (show wrap64 ((j : Int) + 1) = ((j + 1 : Nat) : Int) by have := HN.out; unfold wrap64; omega)
      obtain ⟨y, hy⟩ : ∃ y, 2 ^ j = y := ⟨_, rfl⟩
      have h2 : 2 ^ (j + 1) = 2 * y := by rw [Nat.pow_succ, hy, Nat.mul_comm]
      have hyl : y ≤ 2 ^ 40 := by rw [← hy]; exact Nat.pow_le_pow_right (by omega) (by have := HN.out; omega)
      have HY := Lib.hid (And.intro h2 (show IntKind.u64.wrap (2 * (y : Int)) = ((2 * y : Nat) : Int) by rw [IntKind.wrap_u64]; omega))
      rw [hy] at hx
      subst hx
      clear hy h2 hyl
      go_wp2_with fail
      go_roundw
      case rel => exact ⟨j + 1, by omega, by first | rw [HY.out.1, HY.out.2] | (rw [HY.out.1, ← HY.out.2] <;> rfl), (by first | rw [HW.out] | rfl | simp), (by first | rfl | trivial)⟩
      case measure => (first | (rw [intOf_of' HW.out, intOf_of' rfl]; omega) | (simp [intOf]; omega) | (simp [intOf] <;> omega))
    · have h3 : ¬ (j : Int) < (n : Int) := by omega
      obtain rfl : j = n := by omega
      subst hx
      have HH := Lib.hid (show (2 ^ j : Nat) = 2 ^ j from rfl)
      generalize hz : (2 ^ j : Nat) = z at *
      go_wp2_with fail
      go_ret
      exact ⟨rfl, rfl⟩
theorem OwnV.lit {t : TypeId} {W w : World} (hb : W.heap.size ≤ w.heap.size) {g : Nat} (hg : g = w.heap.size) : OwnV t W (w.alloc (.cells #[] t)) (.slice (some ⟨g, 0, none⟩) 0 0) [] := by
  subst hg; exact World.ownsRow_lit w #[] 0 hb (by simp [maxLen]) (by simp)
theorem u64sT : SlT1 33 22 (.int .u64 0) := ⟨Tryz.underlying33, by kernel_rfl, by simp [Value.cells]⟩
set_option maxHeartbeats 2000000 in
theorem rCut_any (p : List Nat) (m : Nat) (v : Value) (w : World) (hv : RdU w v (pti p)) (hl : p.length ≤ 40) (hp : ∀ c ∈ p, c < 2 ^ 64) (hm : m ≤ 64) :
    Calls Tryz.prog 198 #[v, .int .i64 ((m : Int) - 1)] w fun e w' => ∃ v', e = .returned v' ∧ OwnV 22 w w' v' ((pti (Zb.cutN p m)).map (Value.int .u64)) ∧ Below w.heap.size w w' := by
  obtain ⟨A, c, rfl, ga0⟩ := RdU.point hv
  have HD := Lib.hid (And.intro hl (And.intro hp hm))
  have HG := Lib.hid ga0
  have hw0 : wrap64 ((m : Int) - 1 + 1) = (m : Int) := by unfold wrap64; omega
  have HM := Lib.hid hw0
  clear hv hl hp hm ga0 hw0
  obtain ⟨mm, hmm⟩ : ∃ mm : Int, mm = (m : Int) - 1 := ⟨_, rfl⟩
  rw [← hmm] at HM ⊢
  clear hmm
  go_enter Tryz.func198, Tryz.ntmps198
  go_wp2_with fail
  go_loopw [5, 6, 7, 8] (fun ov iv _ _ wr => ∃ j : Nat, j ≤ p.length ∧ iv = .int .i64 (j : Nat) ∧ OwnV 22 w wr ov ((pti (Zb.cutN (p.take j) m)).map (Value.int .u64)) ∧ Below w.heap.size w wr) (fun _ iv _ _ _ => p.length - (intOf iv).toNat)
  case atStart => exact ⟨0, Nat.zero_le _, rfl, OwnV.lit (Nat.le_refl _) rfl, (by repeat (first | exact Below.refl _ _ | (refine Below.drew ?_) | (refine below_drewN' ?_ _) | (refine below_alloc' ?_ _) | (refine Below.setCell ?_ (by first | exact Nat.le_refl _ | (simp; done) | (simp; omega)) _)))⟩
  case round =>
    obtain ⟨j, hj, rfl, hown, hb⟩ := hrel
    have HO := Lib.hid (And.intro hown hb)
    by_cases hlt : j < p.length
    · have h3 : (j : Int) < (p.length : Int) := by omega
      have h5 : (0 : Int) ≤ (j : Int) := by omega
      have HW := Lib.hid (show wrap64 ((j : Int) + 1) = ((j + 1 : Nat) : Int) by have := HD.out.1; unfold wrap64; omega)
      obtain ⟨b2, o2, rfl, hc⟩ := HG.out (by omega)
      have k0 := Below.keeps hb _ _ (hc j hlt)
      have hpj := HD.out.2.1 p[j] (List.getElem_mem hlt)
      have HT := Lib.hid (show (pti (Zb.cutN (p.take (j + 1)) m)).map (Value.int .u64) = (pti (Zb.cutN (p.take j) m)).map (Value.int .u64) ++ [.int .u64 ((p[j] / 2 ^ m * 2 ^ m : Nat) : Int)] by rw [← List.take_append_getElem hlt]; unfold Zb.cutN pti; rw [List.map_append, List.map_append, List.map_append]; rfl)
      have HBT := Lib.hid (fun n w' (hn : n < 64) => rBit_any p[j] n w' hpj hn)
      have hlb := World.block_lt_of_cell? wr _ k0
      have HCA := Lib.hid (And.intro (cut_all p[j] m hpj) (cut_none p[j] m))
      have hcs : ∀ n, m ≤ n → p[j] % 2 ^ (n + 1) / 2 ^ m * 2 ^ m = p[j] % 2 ^ n / 2 ^ m * 2 ^ m + Zb.bit p[j] n * 2 ^ n ∧ p[j] % 2 ^ n / 2 ^ m * 2 ^ m < 2 ^ 64 ∧ Zb.bit p[j] n * 2 ^ n < 2 ^ 64 ∧ Zb.bit p[j] n < 2 := fun n hn => by
        have e1 := cut_step p[j] m n hn
        have e2 : p[j] % 2 ^ (n + 1) / 2 ^ m * 2 ^ m ≤ p[j] := Nat.le_trans (Nat.div_mul_le_self _ _) (Nat.mod_le _ _)
        exact ⟨e1, by omega, by omega, Zb.bit_lt _ _⟩
      have HCS := Lib.hid hcs
      generalize p[j] = c0 at *
      clear hc hpj hb hown hcs
      go_wp2_with fail
      go_loopw [7, 8] (fun cv kv wi => ∃ n : Nat, m ≤ n ∧ n ≤ 64 ∧ kv = .int .i64 (n : Nat) ∧ cv = .int .u64 ((c0 % 2 ^ n / 2 ^ m * 2 ^ m : Nat) : Int) ∧ wi = wr) (fun _ kv _ => 64 - (intOf kv).toNat)
      case atStart => exact ⟨m, Nat.le_refl _, HD.out.2.2, (by first | rw [HM.out] | rfl), by rw [HCA.out.2]; rfl, rfl⟩
      case round =>
        obtain ⟨n, hn1, hn2, rfl, hcv, hwi⟩ := hrel
        subst hwi
        by_cases hn : n < 64
        · obtain ⟨e1, e2, e3, e4⟩ := HCS.out n hn1
          have h6 : (n : Int) < 64 := by omega
          have h7 : (0 : Int) ≤ (n : Int) := by omega
          have HWn := Lib.hid (show wrap64 ((n : Int) + 1) = ((n + 1 : Nat) : Int) by unfold wrap64; omega)
          have HBN := Lib.hid (HBT.out n wr hn)
          have HE := Lib.hid e1
          have HNN := Lib.hid (And.intro hn1 hn)
          have hsh : IntKind.u64.wrap ((Zb.bit c0 n : Nat) : Int) = ((Zb.bit c0 n : Nat) : Int) := by rw [IntKind.wrap_u64]; omega
          obtain ⟨y, hy⟩ : ∃ y, Zb.bit c0 n * 2 ^ n = y := ⟨_, rfl⟩
          have hshl : IntKind.u64.wrap (((Zb.bit c0 n : Nat) : Int) * 2 ^ min n 64) = ((y : Nat) : Int) := by
            rw [Nat.min_eq_left (by omega), show ((Zb.bit c0 n : Nat) : Int) * 2 ^ n = ((y : Nat) : Int) by rw [← hy, Int.natCast_mul, Int.natCast_pow]; rfl, IntKind.wrap_u64]; omega
          obtain ⟨z, hz⟩ : ∃ z, c0 % 2 ^ n / 2 ^ m * 2 ^ m = z := ⟨_, rfl⟩
          have e5 : z + y < 2 ^ 64 := by
            have : c0 % 2 ^ (n + 1) / 2 ^ m * 2 ^ m < 2 ^ 64 := (HCS.out (n + 1) (by omega)).2.1
            omega
          rw [hz] at hcv HE
          rw [hy] at HE
          have hadd : IntKind.u64.wrap ((z : Int) + (y : Int)) = ((z + y : Nat) : Int) := by rw [IntKind.wrap_u64]; omega
          have HSH := Lib.hid (show IntKind.u64.wrap (((Zb.bit c0 n : Nat) : Int) * 2 ^ n) = ((y : Nat) : Int) by rw [Nat.min_eq_left (by omega)] at hshl; exact hshl)
          have HAD := Lib.hid hadd
          generalize Zb.bit c0 n = bt at *
          subst hcv
          clear e1 e2 e3 e4 e5 hz hy hadd hshl hn1 hn2 hn
          go_wp2_with fail
          refine HBN.out.mono ?_
          rintro e w2 ⟨rfl, hw⟩
          obtain rfl := hw.symm
          go_wp2_with fail
          go_roundw
          case rel => exact ⟨n + 1, by have := HNN.out; omega, by have := HNN.out; omega, (by first | rw [HW.out] | rfl | simp), by rw [HE.out, HSH.out, HAD.out], (by first | rfl | trivial)⟩
          case measure => (first | (rw [intOf_of' HW.out, intOf_of' rfl]; omega) | (simp [intOf]; omega) | (simp [intOf] <;> omega))
        · obtain rfl : n = 64 := by omega
          have h6 : ¬ ((64 : Nat) : Int) < 64 := by omega
          rw [HCA.out.1] at hcv
          subst hcv
          obtain ⟨z, hz⟩ : ∃ z, c0 / 2 ^ m * 2 ^ m = z := ⟨_, rfl⟩
          rw [hz] at HT ⊢
          clear hz
          go_wp2_with (at_builtin; refine wpList_append_V rfl (.tmp 33) (.tmp 35) rfl w ((pti (Zb.cutN (p.take j) m)).map (Value.int .u64)) (.int .u64 (z : Nat)) u64sT ?_ ?_ ?_ ?_ ?_)
          · exact HO.out.1.below (by repeat (first | exact Below.refl _ _ | (refine Below.drew ?_) | (refine below_drewN' ?_ _) | (refine below_alloc' ?_ _) | (refine Below.setCell ?_ (by first | exact Nat.le_refl _ | (simp; done) | (simp; omega)) _)))
          · exact ⟨_, _, rfl, by simp [go_sem], rfl⟩
          · have := HO.out.2.size; simp; omega
          · have := HD.out.1; simp [pti, Zb.cutN]; omega
          intro v' w' hown' hg
          have HG2 := Lib.hid (OwnV.grown (HO.out.1.below (by repeat (first | exact Below.refl _ _ | (refine Below.drew ?_) | (refine below_drewN' ?_ _) | (refine below_alloc' ?_ _) | (refine Below.setCell ?_ (by first | exact Nat.le_refl _ | (simp; done) | (simp; omega)) _)))) (HO.out.2.trans ((show Below _ _ _ from (by repeat (first | exact Below.refl _ _ | (refine Below.drew ?_) | (refine below_drewN' ?_ _) | (refine below_alloc' ?_ _) | (refine Below.setCell ?_ (by first | exact Nat.le_refl _ | (simp; done) | (simp; omega)) _)))).mono HO.out.2.size)) hg)
          have HO' := Lib.hid hown'
          clear hown' hg
          go_wp2_with fail
          go_roundw
          case rel => exact ⟨j + 1, by omega, (by first | rw [HW.out] | rfl | simp), by rw [HT.out]; exact HO'.out, HG2.out⟩
          case measure => (first | (rw [intOf_of' HW.out, intOf_of' rfl]; omega) | (simp [intOf]; omega) | (simp [intOf] <;> omega))
    · have e : p.take j = p := List.take_of_length_le (by omega)
      have h3 : ¬ (j : Int) < (p.length : Int) := by omega
      rw [e] at HO
      clear hown hb
      go_wp2_with fail
      go_ret
      exact ⟨_, rfl, HO.out⟩
end Go.Proofs.YtdkomhmciihkiaaGreat
/-! RefK -/
namespace Go.Proofs.YtdkomhmciihkiaaGreat
open Go.RowKit
set_option linter.unusedVariables false
set_option linter.unusedSimpArgs false

theorem head!_get {l : List En} (h : 0 < l.length) : l.head! = l[0] := by
  cases l with
  | nil => simp at h
  | cons a l => rfl
theorem getLast!_get {l : List En} (h : 0 < l.length) : l.getLast! = l[l.length - 1] := by
  cases l with
  | nil => simp at h
  | cons a l => simp [List.getLast!, List.getLast_eq_getElem]
set_option maxRecDepth 100000
theorem rLevel_any (k : Nat) (l : List En) (v : Value) (w : World) (hv : RdE w v l) (he : EtS k l) (h0 : 0 < l.length) :
    Calls Tryz.prog 197 #[v] w fun e w' => e = .returned (.int .i64 ((lev l : Int) - 1)) ∧ Below w.heap.size w w' := by
  obtain ⟨A, c, rfl, z5, hx⟩ := hv
  obtain ⟨b, o, rfl, hc⟩ := hx h0
  obtain ⟨u, k0, ku, z1⟩ := hc 0 h0
  obtain ⟨u2, k1, ku2, z2⟩ := hc (l.length - 1) (by omega)
  have m0 := List.getElem_mem (l := l) h0
  have m1 := List.getElem_mem (l := l) (n := l.length - 1) (by omega)
  have HP := Lib.hid (fun w' (hb : Below w.heap.size w w') => rPart_any l[0].p (l[l.length - 1]'(by omega)).p u u2 w' (ku.below hb) (ku2.below hb) (by rw [he.et.len _ m0]; exact he.k40) (by rw [he.et.len _ m1]; exact he.k40) (he.et.ok _ m0) (he.et.ok _ m1))
  have hlv : Zb.part l[0].p (l[l.length - 1]'(by omega)).p 64 = (lev l : Int) - 1 := by
    unfold lev
    rw [head!_get h0, getLast!_get h0]
    have := Zb.part_ge l[0].p (l[l.length - 1]'(by omega)).p 64
    omega
  rw [hlv] at HP
  have hw0 : wrap64 ((l.length : Int) - 1) = ((l.length - 1 : Nat) : Int) := by have := he.short; unfold wrap64; omega
  have h1 : (0 : Int) ≤ ((l.length - 1 : Nat) : Int) := by omega
  have h2 : ((l.length - 1 : Nat) : Int) < (l.length : Int) := by omega
  have h3 : (0 : Int) < (l.length : Int) := by omega
  have hbl := World.block_lt_of_cell? w _ k0
  obtain ⟨Au, cu, rfl, z3⟩ := RdU.point ku
  obtain ⟨Au2, cu2, rfl, z4⟩ := RdU.point ku2
  rw [Nat.zero_mul, Nat.add_zero] at k0
  clear hx hc he hlv ku ku2 m0 m1
  clear z1 z2 z3 z4 z5
  generalize l[0].p.length = n0 at *
  generalize (l[l.length - 1]'(by omega)).p.length = n2 at *
  generalize l.length - 1 = n1 at *
  generalize l.length = n at *
  generalize (lev l : Int) - 1 = lv at *
  go_enter Tryz.func197, Tryz.ntmps197
  go_wp2_with fail
  go_quiet ((exact Calls.quiet_of_same (HP.out _ (drewN_below _ _))))
  go_wp2_with fail
  go_ret
  exact ⟨rfl, (by repeat (first | exact Below.refl _ _ | (refine Below.drew ?_) | (refine below_drewN' ?_ _) | (refine below_alloc' ?_ _) | (refine Below.setCell ?_ (by first | exact Nat.le_refl _ | (simp; done) | (simp; omega)) _)))⟩
theorem rDense_any (k n : Nat) (w : World) (hk : k ≤ 40) (hn : n ≤ 1000000) :
    Calls Tryz.prog 199 #[.int .i64 (k : Nat), .int .i64 (n : Nat)] w fun e w' => e = .returned (.bool (densB k n)) ∧ w' = w := by
  have HPW := Lib.hid (fun w' => rPow_any k w' hk)
  by_cases h6 : k ≤ 6
  · have h1 : (k : Int) ≤ 6 := by omega
    have hp : 2 ^ k ≤ 64 := Nat.pow_le_pow_right (n := 2) (by omega) h6
    obtain ⟨y, hy⟩ : ∃ y, 2 ^ k = y := ⟨_, rfl⟩
    have hd : densB k n = decide (y < 2 * n) := by unfold densB; rw [hy]; simp [h6]
    rw [hy] at HPW hp
    have HH := Lib.hid hd
    have hw : wrap64 (2 * (n : Int)) = ((2 * n : Nat) : Int) := by unfold wrap64; omega
    have hw2 : wrap64 (y : Int) = (y : Int) := by unfold wrap64; omega
    have HB := Lib.hid (show decide ((y : Int) < 2 * (n : Int)) = decide (y < 2 * n) by
      by_cases h : y < 2 * n
      · rw [decide_eq_true h, decide_eq_true (by omega)]
      · rw [decide_eq_false h, decide_eq_false (by omega)])
    clear hk h6 hy hd hn
    go_enter Tryz.func199, Tryz.ntmps199
    go_wp2_with fail
    refine (HPW.out _).mono ?_
    rintro e w1 ⟨rfl, hww⟩
    obtain rfl := hww.symm
    go_wp2_with fail
    go_ret
    refine ⟨?_, rfl⟩
    rw [HH.out, ← HB.out]
    first | rfl | (simp; done) | (simp <;> rfl)
  · have h1 : ¬ (k : Int) ≤ 6 := by omega
    have HH := Lib.hid (show densB k n = false by unfold densB; simp [h6])
    clear hk h6 hn
    go_enter Tryz.func199, Tryz.ntmps199
    go_wp2_with fail
    go_ret
    exact ⟨by rw [HH.out] <;> rfl, rfl⟩
/-- a slice of slices of entries is handed back: parts of a list that is read in W -/
def GrpP (W0 W : World) (gs : List (List En)) (w' : World) (v : Value) : Prop := ∃ vs : List Value, OwnV 44 W w' v vs ∧ vs.length = gs.length ∧ ∀ i (h : i < vs.length) (h' : i < gs.length), RdE W0 vs[i] gs[i]
end Go.Proofs.YtdkomhmciihkiaaGreat
/-! RefL -/
namespace Go.Proofs.YtdkomhmciihkiaaGreat
open Go.RowKit
set_option linter.unusedVariables false
set_option linter.unusedSimpArgs false

structure SlTn (st et : TypeId) (z : Value) (n : Nat) : Prop where
  und : Tryz.prog.underlying st = some (.slice et)
  info : (Tryz.prog.info? et).map (fun i => (i.zero, i.size, i.bytes)) = some (some z, 1, n)
  one : z.cells.size = 1
  le : n ≤ 64
theorem run_append_Vn {st et : TypeId} {z : Value} {n : Nat} (hi : SlTn st et z n) (W w : World) (v x : Value) (l : List Value) (y : Value) (hown : OwnV et W w v l) (hx : SrcV w x y) (hb : W.heap.size ≤ w.heap.size) (hlen : l.length ≤ 100000) (ty : TypeId) :
    ∃ v' w', (Builtin.append_ #[st, st] ty #[v, x]).run Tryz.prog w = .ok v' w' ∧ OwnV et W w' v' (l ++ [y]) ∧ w.grownBy w' v.ownBlock := by
  obtain ⟨v', w', a1, a2, a3⟩ := run_append_src (P := Tryz.prog) w W.heap.size st ty et z 1 n hi.und hi.info hi.one (by omega) v l.length l hown x 1 [y] hx.src (by simp only [maxLen]; omega) (Nat.le_trans (Nat.mul_le_mul (show l.length + 1 ≤ 100001 by omega) hi.le) (by omega)) hb
  exact ⟨v', w', a1, by unfold OwnV; rw [List.length_append]; exact a2, a3⟩
theorem wpList_append_Vn {st et : TypeId} {z : Value} {n : Nat} {w : World} {ops : Array Oper} {rest : List Oper} {o : Oper} {a : Act} {Q : Exit → Act → World → Prop} (hgd : o.guard = none) (s x : Operand)
    (ho : o.op = .call { callee := .builtin .append, args := #[s, x], argTypes := #[st, st] }) (W : World) (l : List Value) (y : Value) (hi : SlTn st et z n)
    (hown : OwnV et W w (a.eval s) l) (hx : SrcV w (a.eval x) y) (hb : W.heap.size ≤ w.heap.size) (hlen : l.length ≤ 100000)
    (h : ∀ v' w', OwnV et W w' v' (l ++ [y]) → w.grownBy w' (a.eval s).ownBlock → wpList Tryz.prog ops Q rest (a.put o.dst v') w') : wpList Tryz.prog ops Q (o :: rest) a w := by
  refine wpList_plain hgd fun K hK => ?_
  obtain ⟨v', w', hrun, r1, r2⟩ := run_append_Vn hi W w _ _ l y hown hx hb hlen o.type
  unfold Oper.wp
  simp [execOp, ho, resolve, invoke, builtin, hrun, Result.andThen]
  exact hK _ _ (h v' w' r1 r2)
theorem entsT : SlTn 72 44 (.slice none 0 0) 24 := ⟨Tryz.underlying72, by kernel_rfl, by simp [Value.cells], by omega⟩
theorem GrpP.below {W0 W w w' : World} {gs : List (List En)} {v : Value} (h : GrpP W0 W gs w v) (hb : Below w.heap.size w w') : GrpP W0 W gs w' v := let ⟨vs, h1, h2⟩ := h; ⟨vs, h1.below hb, h2⟩
theorem alloc_cell0 (w : World) (v : Value) (t : TypeId) : (w.alloc (.cells #[v] t)).cell? ⟨w.heap.size, 0, none⟩ = some v := by simp [go_sem]
theorem GrpP.snoc {W0 W w : World} {gs : List (List En)} {v : Value} {vs : List Value} {x : Value} {g : List En} (h : OwnV 44 W w v (vs ++ [x])) (hl : vs.length = gs.length) (hs : ∀ i (h : i < vs.length) (h' : i < gs.length), RdE W0 vs[i] gs[i]) (hx : RdE W0 x g) : GrpP W0 W (gs ++ [g]) w v := by
  refine ⟨vs ++ [x], h, by simp [hl], fun i h1 h2 => ?_⟩
  by_cases hi : i < vs.length
  · rw [List.getElem_append_left hi, List.getElem_append_left (by omega)]; exact hs i hi (by omega)
  · have : i = vs.length := by simp at h1; omega
    subst this
    rw [List.getElem_append_right (Nat.le_refl _), List.getElem_append_right (by omega)]
    simp [hl]; exact hx
theorem grp_bound {f : En → Nat} {l : List En} {fr i : Nat} {a : Nat} (h1 : fr < i) (h2 : i ≤ l.length) (ha : ∀ e ∈ (l.drop fr).take (i - fr), f e = a) (hb : ∀ h : i < l.length, f l[i] ≠ a) :
    grp f (l.drop fr) = (l.drop fr).take (i - fr) :: grp f (l.drop i) := by
  have e : l.drop fr = (l.drop fr).take (i - fr) ++ l.drop i := by
    conv => lhs; rw [← List.take_append_drop (i - fr) (l.drop fr)]
    rw [List.drop_drop, show fr + (i - fr) = i by omega]
  conv => lhs; rw [e]
  refine grp_run f a _ _ ?_ ha ?_
  · intro h
    have := congrArg List.length h
    rw [List.length_take, List.length_drop] at this
    simp at this; omega
  · intro y hy
    rw [List.head?_drop] at hy
    obtain ⟨hi, hy⟩ := List.getElem?_eq_some_iff.1 (Option.mem_def.1 hy)
    rw [← hy]; exact hb hi
set_option maxRecDepth 100000
set_option maxHeartbeats 1000000 in
theorem rKids_any (k n : Nat) (l : List En) (v : Value) (W0 w : World) (hv0 : RdE W0 v l) (hb0 : Below W0.heap.size W0 w) (he : EtS k l) (hlv : lev l = n + 1) (h0 : 0 < l.length) :
    Calls Tryz.prog 139 #[v] w fun e w' => ∃ v', e = .returned v' ∧ GrpP W0 w (kidsL l) w' v' ∧ Below w.heap.size w w' := by
  have hn : n < 64 := by have := lev_le l; omega
  have hv := hv0.below hb0
  have HLV := Lib.hid (fun w' (hb : Below w.heap.size w w') => rLevel_any k l v w' (hv.below hb) he h0)
  rw [hlv] at HLV
  have hnn : ((n + 1 : Nat) : Int) - 1 = (n : Int) := by omega
  rw [hnn] at HLV
  obtain ⟨f, hf⟩ : ∃ f : En → Nat, f = fun e => Zb.addr e.p n := ⟨_, rfl⟩
  have HK := Lib.hid (show kidsL l = grp f l by unfold kidsL; rw [hlv, hf]; rfl)
  have HV := Lib.hid hv0
  obtain ⟨A, c, rfl, ⟨hcap, _, _⟩, hx⟩ := hv
  obtain ⟨b, o, rfl, hcells⟩ := hx h0
  have HC := Lib.hid hcells
  have HD := Lib.hid (And.intro he.short (And.intro h0 hcap))
  have HAD := Lib.hid (fun i (hi : i < l.length) u w' (hb : Below w.heap.size w w') (hu : RdU w u (pti l[i].p)) => rAddr_any l[i].p n u w' (hu.below hb) (by rw [he.et.len _ (List.getElem_mem hi)]; exact he.k40) (he.et.ok _ (List.getElem_mem hi)) hn)
  clear he hx hcells hlv hnn hv0 hb0
  go_enter Tryz.func139, Tryz.ntmps139
  go_wp2_with fail
  refine (HLV.out _ (by repeat (first | exact Below.refl _ _ | (refine Below.drew ?_) | (refine below_drewN' ?_ _) | (refine below_alloc' ?_ _) | (refine Below.setCell ?_ (by first | exact Nat.le_refl _ | (simp; done) | (simp; omega)) _)))).mono ?_
  rintro e w1 ⟨rfl, hb1⟩
  have HB1 := Lib.hid (show Below w.heap.size w w1 from below_trans (by repeat (first | exact Below.refl _ _ | (refine Below.drew ?_) | (refine below_drewN' ?_ _) | (refine below_alloc' ?_ _) | (refine Below.setCell ?_ (by first | exact Nat.le_refl _ | (simp; done) | (simp; omega)) _))) hb1)
  have HO1 := Lib.hid (show GrpP W0 w [] w1 (.slice (some ⟨w.heap.size, 0, none⟩) 0 0) from ⟨[], (OwnV.lit (W := w) (Nat.le_refl _) rfl).below hb1, rfl, fun i h => absurd h (Nat.not_lt_zero _)⟩)
  clear hb1
  go_wp2_with fail
  go_loopw [3, 5, 6] (fun ov fv iv wr => ∃ (i fr : Nat) (gs : List (List En)), iv = .int .i64 (i : Nat) ∧ fv = .int .i64 (fr : Nat) ∧ 1 ≤ i ∧ GrpP W0 w gs wr ov ∧ gs ++ grp f (l.drop fr) = grp f l ∧ gs.length ≤ fr ∧
      ((i ≤ l.length ∧ fr < i ∧ ∃ a, ∀ e ∈ (l.drop fr).take (i - fr), f e = a) ∨ (i = l.length + 1 ∧ fr = l.length)) ∧ Below w.heap.size w wr) (fun _ _ iv _ => l.length + 1 - (intOf iv).toNat)
  case atStart =>
    refine ⟨1, 0, [], rfl, rfl, Nat.le_refl _, HO1.out, by simp, Nat.le_refl _, .inl ⟨HD.out.2.1, Nat.one_pos, f (l[0]'HD.out.2.1), fun e he => ?_⟩, HB1.out⟩
    have h0 := HD.out.2.1
    cases l with
    | nil => simp at h0
    | cons x l => simp at he; rw [he]; rfl
  case round =>
    obtain ⟨i, fr, gs, rfl, rfl, hi1, hg, hgs, hgl, hcase, hb⟩ := hrel
    rcases hcase with ⟨hil, hfi, a, ha⟩ | ⟨rfl, rfl⟩
    · have h3 : (i : Int) ≤ (l.length : Int) := by omega
      have HW := Lib.hid (show wrap64 ((i : Int) + 1) = ((i + 1 : Nat) : Int) by have := HD.out.1; unfold wrap64; omega)
      have hsl := (HV.out.drop' fr (by omega))
      rw [← List.length_drop] at hsl
      have hcf : ¬ c = fr := by have := HD.out.2.2; omega
      rw [if_neg hcf] at hsl
      have HSL := Lib.hid (RdE.take hsl (i - fr) (by rw [List.length_drop]; omega))
      have h5 : (0 : Int) ≤ (fr : Int) := by omega
      have h6 : (fr : Int) ≤ (i : Int) := by omega
      have h7 : (i : Int) ≤ (c : Int) := by have := HD.out.2.2; omega
      have HG := Lib.hid (And.intro hg (And.intro hgs hgl))
      have HR := Lib.hid (And.intro hil (And.intro hfi ha))
      have HB := Lib.hid hb
      by_cases hlast : i = l.length
      · subst hlast
        have h8 : ((l.length : Int) == (l.length : Int)) = true := by simp
        have hbd := grp_bound hfi (Nat.le_refl _) ha (fun h => absurd h (Nat.lt_irrefl _))
        rw [List.drop_length] at hbd
        have HBD := Lib.hid (show (gs ++ [(l.drop fr).take (l.length - fr)]) ++ grp f (l.drop l.length) = grp f l by rw [← hgs, hbd, List.drop_length, List.append_assoc]; rfl)
        obtain ⟨vs, hown, hvl, hvs⟩ := hg
        have HO := Lib.hid (And.intro hown (And.intro hvl hvs))
        clear hbd hgs hgl hown hvl hvs hsl ha hb hfi hi1 hil
        go_wp2_with fail
        go_quiet (fail)
        go_wp2_with (at_builtin; refine wpList_append_Vn rfl (.tmp 37) (.tmp 42) rfl w vs (.slice (some ⟨b, o + fr * 2, none⟩) (l.length - fr) (c - fr)) entsT ?_ ?_ ?_ ?_ ?_)
        · exact HO.out.1.below (by repeat (first | exact Below.refl _ _ | (refine Below.drew ?_) | (refine below_drewN' ?_ _) | (refine below_alloc' ?_ _) | (refine Below.setCell ?_ (by first | exact Nat.le_refl _ | (simp; done) | (simp; omega)) _)))
        · exact ⟨_, _, rfl, alloc_cell0 _ _ _, rfl⟩
        · have := HB.out.size; simp; omega
        · have := HD.out.1; have := HG.out.2.2; have := HO.out.2.1; have := HR.out; omega
        · intro v' w' hown' hg'
          have HG2 := Lib.hid (OwnV.grown (HO.out.1.below (by repeat (first | exact Below.refl _ _ | (refine Below.drew ?_) | (refine below_drewN' ?_ _) | (refine below_alloc' ?_ _) | (refine Below.setCell ?_ (by first | exact Nat.le_refl _ | (simp; done) | (simp; omega)) _)))) (HB.out.trans ((show Below _ _ _ from (by repeat (first | exact Below.refl _ _ | (refine Below.drew ?_) | (refine below_drewN' ?_ _) | (refine below_alloc' ?_ _) | (refine Below.setCell ?_ (by first | exact Nat.le_refl _ | (simp; done) | (simp; omega)) _)))).mono HB.out.size)) hg')
          have HF := Lib.hid (And.intro (GrpP.snoc hown' HO.out.2.1 HO.out.2.2 HSL.out) HG2.out)
          clear hown' hg'
          go_wp2_with fail
          go_roundw
          case rel => exact ⟨l.length + 1, l.length, gs ++ [(l.drop fr).take (l.length - fr)], (by first | rw [HW.out] | rfl | simp), rfl, by omega, HF.out.1, HBD.out, by have := HG.out.2.2; have := HR.out.2.1; simp; omega, .inr ⟨rfl, rfl⟩, HF.out.2⟩
          case measure => (first | (rw [intOf_of' HW.out, intOf_of' rfl]; omega) | (simp [intOf]; omega) | (simp [intOf] <;> omega))
      · have hlt : i < l.length := by omega
        have h8 : ((i : Int) == (l.length : Int)) = false := by simp; omega
        have h9 : (i : Int) < (l.length : Int) := by omega
        have h10 : (fr : Int) < (l.length : Int) := by omega
        have h11 : (0 : Int) ≤ (i : Int) := by omega
        have hlf : fr < l.length := by omega
        obtain ⟨u, k0, ku, z1⟩ := HC.out i hlt
        obtain ⟨u2, k1, ku2, z2⟩ := HC.out fr hlf
        replace k0 := Below.keeps hb _ _ k0
        replace k1 := Below.keeps hb _ _ k1
        have hbl := World.block_lt_of_cell? wr _ k0
        have HA1 := Lib.hid (fun w' hb => HAD.out i hlt u w' hb ku)
        have HA2 := Lib.hid (fun w' hb => HAD.out fr hlf u2 w' hb ku2)
        have hfa : f l[fr] = a := ha _ (by
          rw [List.mem_iff_getElem]
          exact ⟨0, by rw [List.length_take, List.length_drop]; omega, by rw [List.getElem_take, List.getElem_drop]; simp⟩)
        have hfe : Zb.addr l[fr].p n = a := by rw [← hfa, hf]
        rw [hfe] at HA2
        have hfi2 : f l[i] = Zb.addr l[i].p n := by rw [hf]
        obtain ⟨a2, ha2⟩ : ∃ a2, Zb.addr l[i].p n = a2 := ⟨_, rfl⟩
        rw [ha2] at HA1 hfi2
        obtain ⟨Au, cu, rfl, z3⟩ := RdU.point ku
        obtain ⟨Au2, cu2, rfl, z4⟩ := RdU.point ku2
        clear z1 z2 z3 z4 ku ku2 ha2 hfe
        generalize hn1 : l[i].p.length = n1 at *
        generalize hn2 : l[fr].p.length = n2 at *
        clear hn1 hn2
        by_cases haa : a2 = a
        · have h12 : ((a2 : Int) != (a : Int)) = false := by simp [haa]
          have HEX := Lib.hid (show ∀ e ∈ (l.drop fr).take (i + 1 - fr), f e = a from fun e he => by
            rw [List.mem_iff_getElem] at he
            obtain ⟨j, hj, rfl⟩ := he
            rw [List.length_take, List.length_drop] at hj
            rw [List.getElem_take, List.getElem_drop]
            by_cases hji : fr + j = i
            · have e1 : l[fr + j]'(by omega) = l[i] := by congr 1
              rw [e1, hfi2, haa]
            · refine ha _ ?_
              rw [List.mem_iff_getElem]
              exact ⟨j, by rw [List.length_take, List.length_drop]; omega, by rw [List.getElem_take, List.getElem_drop]⟩)
          clear hg hgs hgl hsl ha hb hfi hi1 hil hfa hfi2 haa
          go_wp2_with fail
          go_quiet ((first | with_reducible exact Calls.quiet_of_same (HA1.out _ (below_drewN' HB.out _)) | with_reducible exact Calls.quiet_of_same (HA2.out _ (below_drewN' HB.out _))))
          go_wp2_with fail
          go_roundw
          case rel => exact ⟨i + 1, fr, gs, (by first | rw [HW.out] | rfl | simp), rfl, by omega, HG.out.1.below (by repeat (first | exact Below.refl _ _ | (refine Below.drew ?_) | (refine below_drewN' ?_ _) | (refine below_alloc' ?_ _) | (refine Below.setCell ?_ (by first | exact Nat.le_refl _ | (simp; done) | (simp; omega)) _))), HG.out.2.1, HG.out.2.2, .inl ⟨by omega, by have := HR.out.2.1; omega, a, HEX.out⟩, (by repeat (first | exact HB.out | (refine Below.drew ?_) | (refine below_drewN' ?_ _) | (refine below_alloc' ?_ _) | (refine Below.setCell ?_ (by first | exact Nat.le_refl _ | (have := HB.out.size; simp; omega) | (have := HB.out.size; omega)) _)))⟩
          case measure => (first | (rw [intOf_of' HW.out, intOf_of' rfl]; omega) | (simp [intOf]; omega) | (simp [intOf] <;> omega))
        · have h12 : ((a2 : Int) != (a : Int)) = true := by simp; omega
          have hbd := grp_bound hfi hil ha (fun _ => by rw [hfi2]; exact haa)
          have HBD := Lib.hid (show (gs ++ [(l.drop fr).take (i - fr)]) ++ grp f (l.drop i) = grp f l by rw [← hgs, hbd, List.append_assoc]; rfl)
          have HEX := Lib.hid (show ∀ e ∈ (l.drop i).take (i + 1 - i), f e = a2 from fun e he => by
            rw [show i + 1 - i = 1 by omega, List.take_one, List.head?_drop] at he
            rw [List.getElem?_eq_getElem hlt] at he
            simp at he
            rw [he, hfi2])
          obtain ⟨vs, hown, hvl, hvs⟩ := hg
          have HO := Lib.hid (And.intro hown (And.intro hvl hvs))
          clear hbd hgs hgl hown hvl hvs hsl ha hb hfi hi1 hil hfa hfi2
          go_wp2_with fail
          go_quiet ((first | with_reducible exact Calls.quiet_of_same (HA1.out _ (below_drewN' HB.out _)) | with_reducible exact Calls.quiet_of_same (HA2.out _ (below_drewN' HB.out _))))
          go_wp2_with (at_builtin; refine wpList_append_Vn rfl (.tmp 37) (.tmp 42) rfl w vs (.slice (some ⟨b, o + fr * 2, none⟩) (i - fr) (c - fr)) entsT ?_ ?_ ?_ ?_ ?_)
          · exact HO.out.1.below (by repeat (first | exact Below.refl _ _ | (refine Below.drew ?_) | (refine below_drewN' ?_ _) | (refine below_alloc' ?_ _) | (refine Below.setCell ?_ (by first | exact Nat.le_refl _ | (simp; done) | (simp; omega)) _)))
          · exact ⟨_, _, rfl, alloc_cell0 _ _ _, rfl⟩
          · have := HB.out.size; simp; omega
          · have := HD.out.1; have := HG.out.2.2; have := HO.out.2.1; have := HR.out; omega
          · intro v' w' hown' hg'
            have HG2 := Lib.hid (OwnV.grown (HO.out.1.below (by repeat (first | exact Below.refl _ _ | (refine Below.drew ?_) | (refine below_drewN' ?_ _) | (refine below_alloc' ?_ _) | (refine Below.setCell ?_ (by first | exact Nat.le_refl _ | (simp; done) | (simp; omega)) _)))) (HB.out.trans ((show Below _ _ _ from (by repeat (first | exact Below.refl _ _ | (refine Below.drew ?_) | (refine below_drewN' ?_ _) | (refine below_alloc' ?_ _) | (refine Below.setCell ?_ (by first | exact Nat.le_refl _ | (simp; done) | (simp; omega)) _)))).mono HB.out.size)) hg')
            have HF := Lib.hid (And.intro (GrpP.snoc hown' HO.out.2.1 HO.out.2.2 HSL.out) HG2.out)
            clear hown' hg'
            go_wp2_with fail
            go_roundw
            case rel => exact ⟨i + 1, i, gs ++ [(l.drop fr).take (i - fr)], (by first | rw [HW.out] | rfl | simp), rfl, by omega, HF.out.1, HBD.out, by have := HG.out.2.2; have := HR.out.2.1; simp; omega, .inl ⟨by omega, by omega, a2, HEX.out⟩, HF.out.2⟩
            case measure => (first | (rw [intOf_of' HW.out, intOf_of' rfl]; omega) | (simp [intOf]; omega) | (simp [intOf] <;> omega))
    · have h3 : ¬ (((l.length + 1 : Nat)) : Int) ≤ (l.length : Int) := by omega
      have e : gs = grp f l := by
        have := hgs
        rw [List.drop_length] at this
        simpa [grp] using this
      subst e
      have HG := Lib.hid hg
      have HB := Lib.hid hb
      clear hg hgs hgl hb hi1
      go_wp2_with fail
      go_ret
      exact ⟨_, rfl, by rw [HK.out]; exact HG.out, HB.out⟩
end Go.Proofs.YtdkomhmciihkiaaGreat
/-! RefS -/
namespace Go.Proofs.YtdkomhmciihkiaaGreat
open Go.RowKit
set_option linter.unusedVariables false
set_option linter.unusedSimpArgs false

/-- a value reads as a shape -/
def ShR (w : World) (x : Value) (s : Sh) : Prop := ∃ u pl, x = .agg #[.int .i64 s.lv, u, pl, .bool s.dense, .int .u64 (s.v : Nat)] ∧ RdU w u (pti s.pre) ∧ Sl w pl (s.pl.map fun (x : Nat) => Value.int .i64 (x : Nat))
theorem ShR.below {w w' : World} {x : Value} {s : Sh} (h : ShR w x s) (hb : Below w.heap.size w w') : ShR w' x s := let ⟨u, pl, h1, h2, h3⟩ := h; ⟨u, pl, h1, h2.below hb, h3.below hb⟩
theorem ShV.rd {W w : World} {s : Sh} {x : Value} (h : ShV W w s x) : ShR w x s := let ⟨u, p9, h1, h2, h3⟩ := h.ex; ⟨u, p9, h1, h2.rd, h3.rd⟩
theorem grown_keep {T : TypeId} {W w w' : World} {v : Value} {l : List Value} (h : OwnV T W w v l) (hg : w.grownBy w' v.ownBlock) {b : Nat} {cur : Array Value} {t : TypeId} {fr : Nat × Nat} (ht : t ≠ T) (hb : w.heap[b]? = some (.cells cur t fr)) : w'.heap[b]? = w.heap[b]? :=
  hg.block b (kr_lt hb) fun e => by
    obtain ⟨_, c2, h2⟩ := h.block b e.symm
    rw [hb] at h2
    injection h2 with h2
    injection h2 with _ h2 _
    exact ht h2
/-- a shape whose rows are told apart from rows of shapes by their blocks' types, or were there in W0 -/
def ShK (W0 W w : World) (x : Value) (s : Sh) : Prop := ∃ u pl, x = .agg #[.int .i64 s.lv, u, pl, .bool s.dense, .int .u64 (s.v : Nat)] ∧ (RdU W0 u (pti s.pre) ∨ PtNew w u s.pre) ∧ OwnV 3 W w pl (s.pl.map fun (x : Nat) => Value.int .i64 (x : Nat))
theorem ShK.below {W0 W w w' : World} {x : Value} {s : Sh} (h : ShK W0 W w x s) (hb : Below w.heap.size w w') : ShK W0 W w' x s := by
  obtain ⟨u, pl, h1, h2, h3⟩ := h
  exact ⟨u, pl, h1, h2.imp id (·.below hb), h3.below hb⟩
theorem ShK.rd {W0 W w : World} {x : Value} {s : Sh} (h : ShK W0 W w x s) (hb : Below W0.heap.size W0 w) : ShR w x s := by
  obtain ⟨u, pl, h1, h2, h3⟩ := h
  exact ⟨u, pl, h1, h2.elim (·.below hb) (·.rd), h3.rd⟩
theorem ShV.k {W0 W w : World} {s : Sh} {x : Value} (h : ShV W w s x) : ShK W0 W w x s := let ⟨u, p9, h1, h2, h3⟩ := h.ex; ⟨u, p9, h1, .inr h2, h3⟩
theorem Kd.k1 {k n : Nat} {pre : List Nat} {ks : List (Nat × List En)} (h : Kd k n pre ks) : 1 ≤ k := by
  obtain ⟨x, hx, y, hy, hlt, _⟩ := h.ends
  have h1 := h.addr_lt hy
  rcases Nat.eq_zero_or_pos k with rfl | h0
  · simp at h1; omega
  · exact h0
def ShRP (W0 W : World) (s : Sh) (e : Ending) (w' : World) : Prop := ∃ x, e = .returned x ∧ ShK W0 W w' x s ∧ Below W.heap.size W w'
set_option maxRecDepth 100000
set_option maxHeartbeats 4000000 in
theorem rShape_one (W0 w : World) (e : En) (v : Value) (hv : RdE W0 v [e]) (hb0 : Below W0.heap.size W0 w) : Calls Tryz.prog 138 #[v] w fun e' w' => ShRP W0 w (shL [e]) e' w' := by
  obtain ⟨A, c, rfl, _, hx⟩ := hv
  obtain ⟨b, o, rfl, hc⟩ := hx (by simp)
  obtain ⟨u, k0, ku, k1⟩ := hc 0 (by simp)
  simp only [Nat.zero_mul, Nat.add_zero, List.getElem_cons_zero] at k0 ku k1
  replace k0 := Below.keeps hb0 _ _ k0
  replace k1 := Below.keeps hb0 _ _ k1
  clear hb0
  have hbl : b < w.heap.size := World.block_lt_of_cell? w _ k0
  have HU := Lib.hid ku
  obtain ⟨A9, c9, rfl, z⟩ := RdU.point ku
  have hbn : ¬ w.heap.size = b := by omega
  obtain ⟨n9, hn9⟩ : ∃ n9, e.p.length = n9 := ⟨_, rfl⟩
  rw [hn9] at HU k0
  clear hx hc z ku hn9
  simp only [List.length_singleton]
  go_enter Tryz.func138, Tryz.ntmps138
  go_wp2_with fail
  refine wp_region_vals 9 [fun z9 _ => z9 = .slice (some ⟨b, o, none⟩) 1 c,
    fun z9 _ => z9 = .pointer (some ⟨b, o, none⟩),
    fun z9 _ => z9 = .pointer (some ⟨b, o, none⟩),
    fun z9 _ => z9 = .slice A9 n9 c9,
    fun z9 _ => z9 = .slice (some ⟨b, o, none⟩) 1 c,
    fun z9 _ => z9 = .pointer (some ⟨b, o, none⟩),
    fun z9 _ => z9 = .pointer (some ⟨b, o + 1, none⟩),
    fun z9 _ => z9 = .int .u64 (e.v : Nat),
    fun z9 _ => z9 = .agg #[.int .i64 (-1), .slice A9 n9 c9, .slice none 0 0, .bool false, .int .u64 (e.v : Nat)]]
    (by kernel_rfl) (by kernel_rfl) (by kernel_rfl) (by kernel_rfl) ?_ ?_ ?_
  · intro V hV v w1 w2 h hb
    simp only [List.mem_cons, List.not_mem_nil, or_false] at hV
    rcases hV with rfl | rfl | rfl | rfl | rfl | rfl | rfl | rfl | rfl
    all_goals first | exact h | (exact h)
  · intro iq oq hiq hoq
    match iq, hiq with
    | 0, _ =>
    obtain rfl := Option.some.inj hoq
    intro a1 w1 K hk hK
    have e0 : a1.tmps.getD 0 undef = .slice (some ⟨b, o, none⟩) 1 c := hk.same 0 (by simp)
    simp [Region.wanted, Oper.wp, Act.eval, go_sem, e0, k0, k1, hbl, hbn]
    exact hK _ _ (Below.refl _ _) rfl
    | 1, _ =>
    obtain rfl := Option.some.inj hoq
    intro a1 w1 K hk hK
    have d9 : a1.tmps.getD 9 undef = .slice (some ⟨b, o, none⟩) 1 c := hk.deps ⟨0, .data⟩ (by simp) rfl _ _ rfl rfl
    simp [Region.wanted, Oper.wp, Act.eval, go_sem, d9, k0, k1, hbl, hbn]
    exact hK _ _ (Below.refl _ _) rfl
    | 2, _ =>
    obtain rfl := Option.some.inj hoq
    intro a1 w1 K hk hK
    have d10 : a1.tmps.getD 10 undef = .pointer (some ⟨b, o, none⟩) := hk.deps ⟨1, .data⟩ (by simp) rfl _ _ rfl rfl
    simp [Region.wanted, Oper.wp, Act.eval, go_sem, d10, k0, k1, hbl, hbn]
    exact hK _ _ (Below.refl _ _) rfl
    | 3, _ =>
    obtain rfl := Option.some.inj hoq
    intro a1 w1 K hk hK
    have d11 : a1.tmps.getD 11 undef = .pointer (some ⟨b, o, none⟩) := hk.deps ⟨2, .data⟩ (by simp) rfl _ _ rfl rfl
    have c0 : w1.cell? ⟨b, o, none⟩ = some (.slice A9 n9 c9) := Below.keeps hk.ext _ _ (by simp [go_sem, k0, k1, hbl, hbn])
    have c1 : w1.cell? ⟨b, o + 1, none⟩ = some (.int .u64 (e.v : Nat)) := Below.keeps hk.ext _ _ (by simp [go_sem, k0, k1, hbl, hbn])
    simp [Region.wanted, Oper.wp, Act.eval, go_sem, d11, c0, c1, k0, k1, hbl, hbn]
    exact hK _ _ (Below.refl _ _) rfl
    | 4, _ =>
    obtain rfl := Option.some.inj hoq
    intro a1 w1 K hk hK
    have e0 : a1.tmps.getD 0 undef = .slice (some ⟨b, o, none⟩) 1 c := hk.same 0 (by simp)
    simp [Region.wanted, Oper.wp, Act.eval, go_sem, e0, k0, k1, hbl, hbn]
    exact hK _ _ (Below.refl _ _) rfl
    | 5, _ =>
    obtain rfl := Option.some.inj hoq
    intro a1 w1 K hk hK
    have d13 : a1.tmps.getD 13 undef = .slice (some ⟨b, o, none⟩) 1 c := hk.deps ⟨4, .data⟩ (by simp) rfl _ _ rfl rfl
    simp [Region.wanted, Oper.wp, Act.eval, go_sem, d13, k0, k1, hbl, hbn]
    exact hK _ _ (Below.refl _ _) rfl
    | 6, _ =>
    obtain rfl := Option.some.inj hoq
    intro a1 w1 K hk hK
    have d14 : a1.tmps.getD 14 undef = .pointer (some ⟨b, o, none⟩) := hk.deps ⟨5, .data⟩ (by simp) rfl _ _ rfl rfl
    simp [Region.wanted, Oper.wp, Act.eval, go_sem, d14, k0, k1, hbl, hbn]
    exact hK _ _ (Below.refl _ _) rfl
    | 7, _ =>
    obtain rfl := Option.some.inj hoq
    intro a1 w1 K hk hK
    have d15 : a1.tmps.getD 15 undef = .pointer (some ⟨b, o + 1, none⟩) := hk.deps ⟨6, .data⟩ (by simp) rfl _ _ rfl rfl
    have c0 : w1.cell? ⟨b, o, none⟩ = some (.slice A9 n9 c9) := Below.keeps hk.ext _ _ (by simp [go_sem, k0, k1, hbl, hbn])
    have c1 : w1.cell? ⟨b, o + 1, none⟩ = some (.int .u64 (e.v : Nat)) := Below.keeps hk.ext _ _ (by simp [go_sem, k0, k1, hbl, hbn])
    simp [Region.wanted, Oper.wp, Act.eval, go_sem, d15, c0, c1, k0, k1, hbl, hbn]
    exact hK _ _ (Below.refl _ _) rfl
    | 8, _ =>
    obtain rfl := Option.some.inj hoq
    intro a1 w1 K hk hK
    have d12 : a1.tmps.getD 12 undef = .slice A9 n9 c9 := hk.deps ⟨3, .data⟩ (by simp) rfl _ _ rfl rfl
    have d12x : a1.tmps[12]?.getD undef = .slice A9 n9 c9 := by rw [← d12]; simp
    have d16 : a1.tmps.getD 16 undef = .int .u64 (e.v : Nat) := hk.deps ⟨7, .data⟩ (by simp) rfl _ _ rfl rfl
    have d16x : a1.tmps[16]?.getD undef = .int .u64 (e.v : Nat) := by rw [← d16]; simp
    simp [Region.wanted, Oper.wp, Act.eval, go_sem, d12, d12x, d16, d16x, k0, k1, hbl, hbn]
    exact hK _ _ (Below.refl _ _) rfl
  · intro vs w3 hl hb3 hv
    match vs, hl with
    | [v0, v1, v2, v3, v4, v5, v6, v7, v8], _ =>
    obtain rfl : v0 = .slice (some ⟨b, o, none⟩) 1 c := hv 0 (by omega)
    obtain rfl : v1 = .pointer (some ⟨b, o, none⟩) := hv 1 (by omega)
    obtain rfl : v2 = .pointer (some ⟨b, o, none⟩) := hv 2 (by omega)
    obtain rfl : v3 = .slice A9 n9 c9 := hv 3 (by omega)
    obtain rfl : v4 = .slice (some ⟨b, o, none⟩) 1 c := hv 4 (by omega)
    obtain rfl : v5 = .pointer (some ⟨b, o, none⟩) := hv 5 (by omega)
    obtain rfl : v6 = .pointer (some ⟨b, o + 1, none⟩) := hv 6 (by omega)
    obtain rfl : v7 = .int .u64 (e.v : Nat) := hv 7 (by omega)
    obtain rfl : v8 = .agg #[.int .i64 (-1), .slice A9 n9 c9, .slice none 0 0, .bool false, .int .u64 (e.v : Nat)] := hv 8 (by omega)
    clear hv
    simp only [putAll, List.take_succ_cons, List.take_zero, List.drop_succ_cons, List.drop_zero, Act.put, List.setIfInBounds_toArray, List.set_cons_succ, List.set_cons_zero]
    have hb4 : Below w.heap.size w w3 := below_trans (by repeat (first | exact Below.refl _ _ | (refine Below.drew ?_) | (refine below_drewN' ?_ _) | (refine below_alloc' ?_ _) | (refine Below.setCell ?_ (by first | exact Nat.le_refl _ | (simp; done) | (simp; omega)) _))) hb3
    have hblk : w3.heap[w.heap.size]? = some (.cells #[.int .i64 0, .slice none 0 0, .slice none 0 0, .bool false, .int .u64 0] 222 (0, 0)) := (hb3.block _ (by simp)).trans (by show (w.heap.push _)[w.heap.size]? = _; simp)
    have j0 : w3.cell? ⟨w.heap.size, 0, none⟩ = some (.int .i64 0) := by simp only [World.cell?, hblk]; simp
    have j1 : w3.cell? ⟨w.heap.size, 1, none⟩ = some (.slice none 0 0) := by simp only [World.cell?, hblk]; simp
    have j2 : w3.cell? ⟨w.heap.size, 2, none⟩ = some (.slice none 0 0) := by simp only [World.cell?, hblk]; simp
    have j3 : w3.cell? ⟨w.heap.size, 3, none⟩ = some (.bool false) := by simp only [World.cell?, hblk]; simp
    have j4 : w3.cell? ⟨w.heap.size, 4, none⟩ = some (.int .u64 0) := by simp only [World.cell?, hblk]; simp
    have f0 : w3.frozen? ⟨w.heap.size, 0, none⟩ = false := by simp [World.frozen?, hblk]
    have f1 : w3.frozen? ⟨w.heap.size, 1, none⟩ = false := by simp [World.frozen?, hblk]
    have f2 : w3.frozen? ⟨w.heap.size, 2, none⟩ = false := by simp [World.frozen?, hblk]
    have f3 : w3.frozen? ⟨w.heap.size, 3, none⟩ = false := by simp [World.frozen?, hblk]
    have f4 : w3.frozen? ⟨w.heap.size, 4, none⟩ = false := by simp [World.frozen?, hblk]
    have hlt := kr_lt hblk
    have HB4 := Lib.hid hb4
    clear hb3 hb4 hblk
    go_wp2_with fail
    refine bodyPost_ret (v := .agg #[.int .i64 (-1), .slice A9 n9 c9, .slice none 0 0, .bool false, .int .u64 (e.v : Nat)]) (by simp [results, Tryz.results138, go_sem, j0, j1, j2, j3, j4]) rfl ?_
    exact ⟨_, rfl, ⟨_, _, rfl, .inl HU.out, World.ownsRow_nil _ _ _ _⟩, (by repeat (first | exact HB4.out | (refine Below.drew ?_) | (refine below_drewN' ?_ _) | (refine below_alloc' ?_ _) | (refine Below.setCell ?_ (by first | exact Nat.le_refl _ | (have := HB4.out.size; simp; omega) | (have := HB4.out.size; omega)) _)))⟩
end Go.Proofs.YtdkomhmciihkiaaGreat
/-! RefT -/
namespace Go.Proofs.YtdkomhmciihkiaaGreat
open Go.RowKit
set_option linter.unusedVariables false
set_option linter.unusedSimpArgs false
set_option maxRecDepth 100000

def plV (ks : List (Nat × List En)) (j : Nat) : List Value := ((ks.map (·.1)).take j).map fun (x : Nat) => Value.int .i64 (x : Nat)
theorem plV_len (ks : List (Nat × List En)) (j : Nat) (h : j ≤ ks.length) : (plV ks j).length = j := by unfold plV; rw [List.length_map, List.length_take, List.length_map]; omega
theorem plV_succ (ks : List (Nat × List En)) (j : Nat) (h : j < ks.length) : plV ks (j + 1) = plV ks j ++ [.int .i64 (ks[j].1 : Nat)] := by
  unfold plV
  rw [← List.take_append_getElem (by rw [List.length_map]; exact h), List.map_append, List.getElem_map]; rfl
/-- the shape that is being filled -/
structure SIv (w wr : World) (B n j : Nat) (U KV : Value) (pre : List Nat) (vs : List Value) (ks : List (Nat × List En)) : Prop where
  blk : ∃ pv, wr.heap[B]? = some (.cells #[.int .i64 (n : Nat), U, pv, .bool false, .int .u64 0] 222 (0, 0)) ∧ OwnV 3 w wr pv (plV ks j)
  u : OwnV 22 w wr U ((pti pre).map (Value.int .u64))
  kv : OwnV 44 w wr KV vs
  bel : Below w.heap.size w wr
  res : wr.heap[w.heap.size]? = some (.cells #[.int .i64 0, .slice none 0 0, .slice none 0 0, .bool false, .int .u64 0] 222 (0, 0))
theorem OwnV.cellsAt {t : TypeId} {W w : World} {g n c : Nat} {l : List Value} (h : OwnV t W w (.slice (some ⟨g, 0, none⟩) n c) l) (h0 : l ≠ []) : ∀ j (hj : j < l.length), w.cell? ⟨g, j, none⟩ = some l[j] := by
  obtain ⟨g', n', e, _, hc⟩ := h.cells h0
  injection e with e _ _
  injection e with e
  injection e with e _ _
  subst e
  exact hc
def ShB (w : World) (g : Nat) : Prop := ∃ cur fr, w.heap[g]? = some (.cells cur 222 fr)
theorem ShB.set {w : World} {g g' j : Nat} {x : Value} (h : ShB w g) : ShB (w.setCell ⟨g', j, none⟩ x) g := by
  obtain ⟨cur, fr, h⟩ := h
  by_cases e : g = g'
  · subst e; exact ⟨_, _, kr_set h⟩
  · exact ⟨_, _, (kr_far e).trans h⟩
theorem OwnV.setS {T : TypeId} {W w : World} {u x : Value} {l : List Value} {g j : Nat} (h : OwnV T W w u l) (hg : ShB w g) (ht : 222 ≠ T) : OwnV T W (w.setCell ⟨g, j, none⟩ x) u l := by
  obtain ⟨cur, fr, hg⟩ := hg
  exact h.set hg ht
theorem OwnV.setS6 {T : TypeId} {W w : World} {u x x0 x1 x2 x3 x4 : Value} {l : List Value} {B R : Nat} (h : OwnV T W w u l) (hb : ShB w B) (hr : ShB w R) (ht : 222 ≠ T) :
    OwnV T W ((((((w.setCell ⟨B, 3, none⟩ x).setCell ⟨R, 0, none⟩ x0).setCell ⟨R, 1, none⟩ x1).setCell ⟨R, 2, none⟩ x2).setCell ⟨R, 3, none⟩ x3).setCell ⟨R, 4, none⟩ x4) u l :=
  (((((h.setS hb ht).setS hr.set ht).setS hr.set.set ht).setS hr.set.set.set ht).setS hr.set.set.set.set ht).setS hr.set.set.set.set.set ht
theorem plV_all (ks : List (Nat × List En)) : plV ks ks.length = (ks.map (·.1)).map fun (x : Nat) => Value.int .i64 (x : Nat) := by
  unfold plV; rw [List.take_of_length_le (by rw [List.length_map]; exact Nat.le_refl _)]
set_option maxHeartbeats 4000000 in
theorem rShape_more (W0 w : World) (k n : Nat) (pre : List Nat) (ks : List (Nat × List En)) (v : Value) (hk : Kd k n pre ks) (hv : RdE w v (cat ks)) (he : EtS k (cat ks)) :
    Calls Tryz.prog 138 #[v] w fun e' w' => ShRP W0 w (shL (cat ks)) e' w' := by
  have h2 := hk.two_le
  have hl0 : 0 < (cat ks).length := by omega
  have hsh := hk.sh
  have HKD := Lib.hid (fun w' (hb : Below w.heap.size w w') => rKids_any k n (cat ks) v w w' hv hb he hk.lev hl0)
  rw [hk.kids] at HKD
  have HLV := Lib.hid (fun w' (hb : Below w.heap.size w w') => rLevel_any k (cat ks) v w' (hv.below hb) he hl0)
  rw [hk.lev, show ((n + 1 : Nat) : Int) - 1 = n by omega] at HLV
  have HV := Lib.hid hv
  have hkk := he.k40
  obtain ⟨A, lc, rfl, hz1, hx⟩ := hv
  obtain ⟨lb, lo, rfl, hc⟩ := hx hl0
  obtain ⟨u, k0, ku, hz2⟩ := hc 0 hl0
  simp only [Nat.zero_mul, Nat.add_zero] at k0 ku
  have hm0 : (cat ks)[0] ∈ cat ks := List.getElem_mem hl0
  have hcut := hk.cat_pre hm0
  have hl40 := he.et.len _ hm0
  have HCT := Lib.hid (fun w' (hb : Below w.heap.size w w') => rCut_any (cat ks)[0].p (n + 1) u w' (ku.below hb) (by rw [hl40]; exact hkk) (he.et.ok _ hm0) (by have := hk.n64; omega))
  rw [hcut, show ((n + 1 : Nat) : Int) - 1 = n by omega] at HCT
  have HDN := Lib.hid (fun w' => rDense_any k ks.length w' hkk (by
    have h1 := (cat_length ks hk.ne).1
    have := he.short
    omega))
  have HSH := Lib.hid hsh
  have HPL := Lib.hid (hk.preLen)
  have HKS := Lib.hid (And.intro hk (And.intro he.short hkk))
  have hlb : lb < w.heap.size := World.block_lt_of_cell? w _ k0
  have hz0 : (0 : Int) < ((cat ks).length : Int) := by omega
  obtain ⟨AU, cU, rfl, hz3⟩ := RdU.point ku
  obtain ⟨nU, hnU⟩ : ∃ nU, (cat ks)[0].p.length = nU := ⟨_, rfl⟩
  rw [hl40] at hnU
  subst hnU
  rw [hl40] at k0 HCT
  have h1f : (((cat ks).length : Int) == 1) = false := by simp; omega
  have hn2 : ks.length ≤ 1000 := by have h1 := (cat_length ks hk.ne).1; have := he.short; omega
  have HN2 := Lib.hid (And.intro hn2 hk.two)
  have HK0 := Lib.hid (And.intro k0 (And.intro hz0 hlb))
  clear hsh hz1 hz2 hz3 hx hc ku hm0 hcut hl40 hk he hkk h2 hn2
  generalize cat ks = l at *
  go_enter Tryz.func138, Tryz.ntmps138
  go_wp2_with fail
  refine wp_region_vals 11 [fun z9 _ => z9 = .slice (some ⟨lb, lo, none⟩) l.length lc,
    fun z9 _ => z9 = .int .i64 (n : Nat),
    fun z9 _ => z9 = .slice (some ⟨lb, lo, none⟩) l.length lc,
    fun z9 _ => z9 = .pointer (some ⟨lb, lo, none⟩),
    fun z9 _ => z9 = .pointer (some ⟨lb, lo, none⟩),
    fun z9 _ => z9 = .slice AU k cU,
    fun z9 _ => z9 = .slice (some ⟨lb, lo, none⟩) l.length lc,
    fun z9 _ => z9 = .int .i64 (n : Nat),
    fun v9 w9 => OwnV 22 w w9 v9 ((pti pre).map (Value.int .u64)),
    fun v9 w9 => ∃ u9, v9 = .agg #[.int .i64 (n : Nat), u9, .slice none 0 0, .bool false, .int .u64 0] ∧ OwnV 22 w w9 u9 ((pti pre).map (Value.int .u64)),
    fun v9 w9 => ∃ B, v9 = .pointer (some ⟨B, 0, none⟩) ∧ w.heap.size < B ∧ w9.heap[B]? = some (.cells #[.int .i64 0, .slice none 0 0, .slice none 0 0, .bool false, .int .u64 0] 222 (0, 0))]
    (by kernel_rfl) (by kernel_rfl) (by kernel_rfl) (by kernel_rfl) ?_ ?_ ?_
  · intro V hV v w1 w2 h hb
    simp only [List.mem_cons, List.not_mem_nil, or_false] at hV
    rcases hV with rfl | rfl | rfl | rfl | rfl | rfl | rfl | rfl | rfl | rfl | rfl
    all_goals first | exact h | (first | exact OwnV.below h hb | (obtain ⟨u, h1, h2⟩ := h; exact ⟨u, h1, h2.below hb⟩) | (obtain ⟨B, h1, h2, h3⟩ := h; exact ⟨B, h1, h2, (hb.block B (kr_lt h3)).trans h3⟩))
  · intro iq oq hiq hoq
    match iq, hiq with
    | 0, _ =>
    obtain rfl := Option.some.inj hoq
    intro a1 w1 K hk hK
    have e0 : a1.tmps.getD 0 undef = .slice (some ⟨lb, lo, none⟩) l.length lc := hk.same 0 (by simp)
    simp [Region.wanted, Oper.wp, Act.eval, go_sem, e0, k0, hlb, hz0, hl0]
    exact hK _ _ (Below.refl _ _) rfl
    | 1, _ =>
    obtain rfl := Option.some.inj hoq
    intro a1 w1 K hk hK
    have d18 : a1.tmps.getD 18 undef = .slice (some ⟨lb, lo, none⟩) l.length lc := hk.deps ⟨0, .data⟩ (by simp) rfl _ _ rfl rfl
    simp [Region.wanted, Oper.wp, Act.eval, go_sem, d18, k0, hlb, hz0, hl0]
    refine (HLV.out _ (below_trans (by repeat (first | exact Below.refl _ _ | (refine Below.drew ?_) | (refine below_drewN' ?_ _) | (refine below_alloc' ?_ _) | (refine Below.setCell ?_ (by first | exact Nat.le_refl _ | (simp; done) | (simp; omega)) _))) hk.ext)).mono ?_
    rintro e w9 ⟨rfl, hb9⟩
    exact hK _ _ hb9 rfl
    | 2, _ =>
    obtain rfl := Option.some.inj hoq
    intro a1 w1 K hk hK
    have e0 : a1.tmps.getD 0 undef = .slice (some ⟨lb, lo, none⟩) l.length lc := hk.same 0 (by simp)
    simp [Region.wanted, Oper.wp, Act.eval, go_sem, e0, k0, hlb, hz0, hl0]
    exact hK _ _ (Below.refl _ _) rfl
    | 3, _ =>
    obtain rfl := Option.some.inj hoq
    intro a1 w1 K hk hK
    have d20 : a1.tmps.getD 20 undef = .slice (some ⟨lb, lo, none⟩) l.length lc := hk.deps ⟨2, .data⟩ (by simp) rfl _ _ rfl rfl
    simp [Region.wanted, Oper.wp, Act.eval, go_sem, d20, k0, hlb, hz0, hl0]
    exact hK _ _ (Below.refl _ _) rfl
    | 4, _ =>
    obtain rfl := Option.some.inj hoq
    intro a1 w1 K hk hK
    have d21 : a1.tmps.getD 21 undef = .pointer (some ⟨lb, lo, none⟩) := hk.deps ⟨3, .data⟩ (by simp) rfl _ _ rfl rfl
    simp [Region.wanted, Oper.wp, Act.eval, go_sem, d21, k0, hlb, hz0, hl0]
    exact hK _ _ (Below.refl _ _) rfl
    | 5, _ =>
    obtain rfl := Option.some.inj hoq
    intro a1 w1 K hk hK
    have d22 : a1.tmps.getD 22 undef = .pointer (some ⟨lb, lo, none⟩) := hk.deps ⟨4, .data⟩ (by simp) rfl _ _ rfl rfl
    have c0 : w1.cell? ⟨lb, lo, none⟩ = some (.slice AU k cU) := Below.keeps hk.ext _ _ (by simp [go_sem, k0, hlb, hz0, hl0])
    simp [Region.wanted, Oper.wp, Act.eval, go_sem, d22, c0, k0, hlb, hz0, hl0]
    exact hK _ _ (Below.refl _ _) rfl
    | 6, _ =>
    obtain rfl := Option.some.inj hoq
    intro a1 w1 K hk hK
    have e0 : a1.tmps.getD 0 undef = .slice (some ⟨lb, lo, none⟩) l.length lc := hk.same 0 (by simp)
    simp [Region.wanted, Oper.wp, Act.eval, go_sem, e0, k0, hlb, hz0, hl0]
    exact hK _ _ (Below.refl _ _) rfl
    | 7, _ =>
    obtain rfl := Option.some.inj hoq
    intro a1 w1 K hk hK
    have d24 : a1.tmps.getD 24 undef = .slice (some ⟨lb, lo, none⟩) l.length lc := hk.deps ⟨6, .data⟩ (by simp) rfl _ _ rfl rfl
    simp [Region.wanted, Oper.wp, Act.eval, go_sem, d24, k0, hlb, hz0, hl0]
    refine (HLV.out _ (below_trans (by repeat (first | exact Below.refl _ _ | (refine Below.drew ?_) | (refine below_drewN' ?_ _) | (refine below_alloc' ?_ _) | (refine Below.setCell ?_ (by first | exact Nat.le_refl _ | (simp; done) | (simp; omega)) _))) hk.ext)).mono ?_
    rintro e w9 ⟨rfl, hb9⟩
    exact hK _ _ hb9 rfl
    | 8, _ =>
    obtain rfl := Option.some.inj hoq
    intro a1 w1 K hk hK
    have d23 : a1.tmps.getD 23 undef = .slice AU k cU := hk.deps ⟨5, .data⟩ (by simp) rfl _ _ rfl rfl
    have d25 : a1.tmps.getD 25 undef = .int .i64 (n : Nat) := hk.deps ⟨7, .data⟩ (by simp) rfl _ _ rfl rfl
    simp [Region.wanted, Oper.wp, Act.eval, go_sem, d23, d25, k0, hlb, hz0, hl0]
    refine (HCT.out _ (below_trans (by repeat (first | exact Below.refl _ _ | (refine Below.drew ?_) | (refine below_drewN' ?_ _) | (refine below_alloc' ?_ _) | (refine Below.setCell ?_ (by first | exact Nat.le_refl _ | (simp; done) | (simp; omega)) _))) hk.ext)).mono ?_
    rintro e w9 ⟨v9, rfl, h9, hb9⟩
    exact hK _ _ hb9 (h9.base (Nat.le_trans (by simp) (below_trans (by repeat (first | exact Below.refl _ _ | (refine Below.drew ?_) | (refine below_drewN' ?_ _) | (refine below_alloc' ?_ _) | (refine Below.setCell ?_ (by first | exact Nat.le_refl _ | (simp; done) | (simp; omega)) _))) hk.ext : Below w.heap.size w _).size))
    | 9, _ =>
    obtain rfl := Option.some.inj hoq
    intro a1 w1 K hk hK
    have d19 : a1.tmps.getD 19 undef = .int .i64 (n : Nat) := hk.deps ⟨1, .data⟩ (by simp) rfl _ _ rfl rfl
    have d19x : a1.tmps[19]?.getD undef = .int .i64 (n : Nat) := by rw [← d19]; simp
    have D26 : OwnV 22 w w1 (a1.tmps.getD 26 undef) ((pti pre).map (Value.int .u64)) := hk.deps ⟨8, .data⟩ (by simp) rfl _ _ rfl rfl
    obtain ⟨A9, c9, e26⟩ := OwnV.shape D26
    have e26x : a1.tmps[26]?.getD undef = .slice A9 ((pti pre).map (Value.int .u64)).length c9 := by rw [← e26]; simp
    rw [e26] at D26
    have d19x : a1.tmps[19]?.getD undef = .int .i64 (n : Nat) := by rw [← d19]; simp
    simp [Region.wanted, Oper.wp, Act.eval, go_sem, e26, e26x, d19, d19x]
    exact hK _ _ (Below.refl _ _) ⟨_, rfl, by simpa using D26⟩
    | 10, _ =>
    obtain rfl := Option.some.inj hoq
    intro a1 w1 K hk hK
    simp [Region.wanted, Oper.wp, Act.eval, go_sem, k0, hlb, hz0, hl0]
    refine hK _ _ (below_alloc' (Below.refl _ _) _) ⟨_, rfl, (by have := hk.ext.size; simp at this; omega), ?_⟩
    exact alloc_blk _ _
  · intro vs w3 hl hb3 hv
    match vs, hl with
    | [v0, v1, v2, v3, v4, v5, v6, v7, v8, v9, v10], _ =>
    obtain rfl : v0 = .slice (some ⟨lb, lo, none⟩) l.length lc := hv 0 (by omega)
    obtain rfl : v1 = .int .i64 (n : Nat) := hv 1 (by omega)
    obtain rfl : v2 = .slice (some ⟨lb, lo, none⟩) l.length lc := hv 2 (by omega)
    obtain rfl : v3 = .pointer (some ⟨lb, lo, none⟩) := hv 3 (by omega)
    obtain rfl : v4 = .pointer (some ⟨lb, lo, none⟩) := hv 4 (by omega)
    obtain rfl : v5 = .slice AU k cU := hv 5 (by omega)
    obtain rfl : v6 = .slice (some ⟨lb, lo, none⟩) l.length lc := hv 6 (by omega)
    obtain rfl : v7 = .int .i64 (n : Nat) := hv 7 (by omega)
    have q8 : OwnV 22 w w3 v8 ((pti pre).map (Value.int .u64)) := hv 8 (by omega)
    have q9 : ∃ u9, v9 = .agg #[.int .i64 (n : Nat), u9, .slice none 0 0, .bool false, .int .u64 0] ∧ OwnV 22 w w3 u9 ((pti pre).map (Value.int .u64)) := hv 9 (by omega)
    have q10 : ∃ B, v10 = .pointer (some ⟨B, 0, none⟩) ∧ w.heap.size < B ∧ w3.heap[B]? = some (.cells #[.int .i64 0, .slice none 0 0, .slice none 0 0, .bool false, .int .u64 0] 222 (0, 0)) := hv 10 (by omega)
    clear hv
    simp only [putAll, List.take_succ_cons, List.take_zero, List.drop_succ_cons, List.drop_zero, Act.put, List.setIfInBounds_toArray, List.set_cons_succ, List.set_cons_zero]
    clear q8
    obtain ⟨U, rfl, hU⟩ := q9
    obtain ⟨B, rfl, hBw', hBk⟩ := q10
    have hBw := Nat.le_of_lt hBw'
    have hrs : w3.heap[w.heap.size]? = some (.cells #[.int .i64 0, .slice none 0 0, .slice none 0 0, .bool false, .int .u64 0] 222 (0, 0)) := (hb3.block _ (by simp)).trans (by show (w.heap.push _)[w.heap.size]? = _; simp)
    have hb4 : Below w.heap.size w w3 := below_trans (by repeat (first | exact Below.refl _ _ | (refine Below.drew ?_) | (refine below_drewN' ?_ _) | (refine below_alloc' ?_ _) | (refine Below.setCell ?_ (by first | exact Nat.le_refl _ | (simp; done) | (simp; omega)) _))) hb3
    obtain ⟨AU2, cU2, hUe⟩ := hU.shape
    have hplen : ((pti pre).map (Value.int .u64)).length = k := by unfold pti; rw [List.length_map, List.length_map]; exact HPL.out.1
    rw [hplen] at hUe
    subst hUe
    have j0 : w3.cell? ⟨B, 0, none⟩ = some (.int .i64 0) := by simp only [World.cell?, hBk]; simp
    have j1 : w3.cell? ⟨B, 1, none⟩ = some (.slice none 0 0) := by simp only [World.cell?, hBk]; simp
    have j2 : w3.cell? ⟨B, 2, none⟩ = some (.slice none 0 0) := by simp only [World.cell?, hBk]; simp
    have j3 : w3.cell? ⟨B, 3, none⟩ = some (.bool false) := by simp only [World.cell?, hBk]; simp
    have j4 : w3.cell? ⟨B, 4, none⟩ = some (.int .u64 0) := by simp only [World.cell?, hBk]; simp
    have f0 : w3.frozen? ⟨B, 0, none⟩ = false := by simp [World.frozen?, hBk]
    have f1 : w3.frozen? ⟨B, 1, none⟩ = false := by simp [World.frozen?, hBk]
    have f2 : w3.frozen? ⟨B, 2, none⟩ = false := by simp [World.frozen?, hBk]
    have f3 : w3.frozen? ⟨B, 3, none⟩ = false := by simp [World.frozen?, hBk]
    have f4 : w3.frozen? ⟨B, 4, none⟩ = false := by simp [World.frozen?, hBk]
    have hlt := kr_lt hBk
    have s0 := kr_set (k := 0) (u := .int .i64 (n : Nat)) hBk
    have s1 := kr_set (k := 1) (u := .slice AU2 k cU2) s0
    have s2 := kr_set (k := 2) (u := .slice none 0 0) s1
    have s3 := kr_set (k := 3) (u := .bool false) s2
    have s4 := kr_set (k := 4) (u := .int .u64 0) s3
    have hset := ((((hU.set (j := 0) (x := .int .i64 (n : Nat)) hBk (by decide)).set (j := 1) (x := .slice AU2 k cU2) s0 (by decide)).set (j := 2) (x := .slice none 0 0) s1 (by decide)).set (j := 3) (x := .bool false) s2 (by decide)).set (j := 4) (x := .int .u64 0) s3 (by decide)
    have hbb := ((((hb4.setCell (p := ⟨B, 0, none⟩) hBw (.int .i64 (n : Nat))).setCell (p := ⟨B, 1, none⟩) hBw (.slice AU2 k cU2)).setCell (p := ⟨B, 2, none⟩) hBw (.slice none 0 0)).setCell (p := ⟨B, 3, none⟩) hBw (.bool false)).setCell (p := ⟨B, 4, none⟩) hBw (.int .u64 0)
    have HF := Lib.hid (And.intro hset (And.intro hbb (And.intro s4 hBw)))
    have hrs5 := (kr_far (k := 4) (u := .int .u64 0) (Nat.ne_of_lt hBw')).trans ((kr_far (k := 3) (u := .bool false) (Nat.ne_of_lt hBw')).trans ((kr_far (k := 2) (u := .slice none 0 0) (Nat.ne_of_lt hBw')).trans ((kr_far (k := 1) (u := .slice AU2 k cU2) (Nat.ne_of_lt hBw')).trans ((kr_far (w := w3) (k := 0) (u := .int .i64 (n : Nat)) (Nat.ne_of_lt hBw')).trans hrs))))
    have HRS := Lib.hid (And.intro hrs5 hBw')
    clear hrs hrs5 hBw'
    clear hU hset hbb hb3 hb4 hBk s0 s1 s2 s3 s4 hBw hplen
    go_wp2_with fail
    refine (HKD.out _ HF.out.2.1).mono ?_
    rintro e w4 ⟨kv, rfl, ⟨kvs, hkv, hvl, hvs⟩, hb5⟩
    rw [List.length_map] at hvl
    have HS := Lib.hid (show SIv w w4 B n 0 (.slice AU2 k cU2) kv pre kvs ks from ⟨⟨.slice none 0 0, (hb5.block B (kr_lt HF.out.2.2.1)).trans HF.out.2.2.1, World.ownsRow_nil _ _ _ _⟩, HF.out.1.below hb5, hkv.base HF.out.2.1.size, HF.out.2.1.trans (hb5.mono HF.out.2.1.size), (hb5.block _ (kr_lt HRS.out.1)).trans HRS.out.1⟩)
    obtain ⟨gk, ck, rfl, hgk, hcv⟩ := hkv.cells (by intro h; rw [h] at hvl; have := HN2.out.2; simp at hvl; omega)
    have HVS := Lib.hid (And.intro hvl hvs)
    rw [hvl] at HS ⊢
    clear hkv hgk hcv hb5 hvs hvl
    go_wp2_with fail
    go_loopw [5] (fun iv wr => ∃ j : Nat, j ≤ ks.length ∧ iv = .int .i64 (j : Nat) ∧ SIv w wr B n j (.slice AU2 k cU2) (.slice (some ⟨gk, 0, none⟩) ks.length ck) pre kvs ks) (fun iv _ => ks.length - (intOf iv).toNat)
    case atStart => exact ⟨0, Nat.zero_le _, rfl, HS.out⟩
    case round =>
      obtain ⟨j, hj, rfl, hI⟩ := hrel
      have HI := Lib.hid hI
      by_cases hlt : j < ks.length
      · have h3 : (j : Int) < (ks.length : Int) := by omega
        have h5 : (0 : Int) ≤ (j : Int) := by omega
        have HW := Lib.hid (show wrap64 ((j : Int) + 1) = ((j + 1 : Nat) : Int) by have := HN2.out.1; unfold wrap64; omega)
        have hvl := HVS.out.1
        have kj := hI.kv.cellsAt (by intro h; rw [h] at hvl; simp at hvl; omega) j (by omega)
        have hr := HVS.out.2 j (by omega) (by rw [List.length_map]; exact hlt)
        rw [List.getElem_map] at hr
        have hx := List.getElem_mem hlt
        have hne := HKS.out.1.ne _ hx
        have hkl : 0 < (ks[j]).2.length := List.length_pos_iff.2 hne
        obtain ⟨A9, ck9, ev, zz2, hcc⟩ := hr
        obtain ⟨kb9, ko9, rfl, hc9⟩ := hcc hkl
        obtain ⟨u9, pu, hu9, zz3⟩ := hc9 0 hkl
        simp only [Nat.zero_mul, Nat.add_zero] at pu hu9
        replace pu := Below.keeps hI.bel _ _ pu
        rw [ev] at kj
        have hm9 : (ks[j]).2[0] ∈ (ks[j]).2 := List.getElem_mem hkl
        have had := HKS.out.1.adr _ hx _ hm9
        have HAD := Lib.hid (fun w' (hb : Below wr.heap.size wr w') => rAddr_any (ks[j]).2[0].p n u9 w' ((hu9.below hI.bel).below hb) (by rw [(HKS.out.1.et _ hx).len _ hm9]; exact HKS.out.2.2) ((HKS.out.1.et _ hx).ok _ hm9) HKS.out.1.n64)
        rw [had] at HAD
        have HPS := Lib.hid (plV_succ ks j hlt)
        have hnk0 := hkl
        obtain ⟨AU9, cU9, rfl, zz⟩ := RdU.point hu9
        obtain ⟨pv, hBk, hpv⟩ := hI.blk
        obtain ⟨AP, cP, e8⟩ := hpv.shape
        rw [plV_len ks j hj] at e8
        subst e8
        have x0 : wr.cell? ⟨B, 0, none⟩ = some (.int .i64 (n : Nat)) := by simp only [World.cell?, hBk]; simp
        have x2 : wr.cell? ⟨B, 2, none⟩ = some (.slice AP j cP) := by simp only [World.cell?, hBk]; simp
        have hlB := kr_lt hBk
        have hlg : gk < wr.heap.size := World.block_lt_of_cell? wr _ kj
        have hlk : kb9 < wr.heap.size := World.block_lt_of_cell? wr _ pu
        have HPV := Lib.hid (And.intro hBk hpv)
        clear zz zz2 zz3 hvl hx hne hcc hc9 hu9 hm9 had hBk hpv hI ev
        generalize (ks[j]).2[0].p.length = nU9 at *
        generalize (ks[j]).2.length = nk9 at *
        generalize (ks[j]).1 = ad at *
        go_wp2_with fail
        refine wp_region_vals 13 [fun z9 _ => z9 = .pointer (some ⟨B, 2, none⟩),
          fun z9 _ => z9 = .slice AP j cP,
          fun z9 _ => z9 = .slice (some ⟨gk, 0, none⟩) ks.length ck,
          fun z9 _ => z9 = .int .i64 (j : Nat),
          fun z9 _ => z9 = .pointer (some ⟨gk, j, none⟩),
          fun z9 _ => z9 = .slice (some ⟨kb9, ko9, none⟩) nk9 ck9,
          fun z9 _ => z9 = .pointer (some ⟨kb9, ko9, none⟩),
          fun z9 _ => z9 = .pointer (some ⟨kb9, ko9, none⟩),
          fun z9 _ => z9 = .slice AU9 nU9 cU9,
          fun z9 _ => z9 = .pointer (some ⟨B, 0, none⟩),
          fun z9 _ => z9 = .int .i64 (n : Nat),
          fun z9 _ => z9 = .int .i64 (ad : Nat),
          fun v9 w9 => ∃ g9, v9 = .slice (some ⟨g9, 0, none⟩) 1 1 ∧ w9.cell? ⟨g9, 0, none⟩ = some (.int .i64 (ad : Nat))]
          (by kernel_rfl) (by kernel_rfl) (by kernel_rfl) (by kernel_rfl) ?_ ?_ ?_
        · intro V hV v w1 w2 h hb
          simp only [List.mem_cons, List.not_mem_nil, or_false] at hV
          rcases hV with rfl | rfl | rfl | rfl | rfl | rfl | rfl | rfl | rfl | rfl | rfl | rfl | rfl
          all_goals first | exact h | (first | exact h | (obtain ⟨g9, h1, h2⟩ := h; exact ⟨g9, h1, Below.keeps hb _ _ h2⟩))
        · intro iq oq hiq hoq
          match iq, hiq with
          | 0, _ =>
          obtain rfl := Option.some.inj hoq
          intro a1 w1 K hk hK
          have e3 : a1.tmps.getD 3 undef = .pointer (some ⟨B, 0, none⟩) := hk.same 3 (by simp)
          simp [Region.wanted, Oper.wp, Act.eval, go_sem, e3, x0, x2, kj, pu, hlB, hlg, hlk, h3, h5, hnk0]
          exact hK _ _ (Below.refl _ _) rfl
          | 1, _ =>
          obtain rfl := Option.some.inj hoq
          intro a1 w1 K hk hK
          have d36 : a1.tmps.getD 36 undef = .pointer (some ⟨B, 2, none⟩) := hk.deps ⟨0, .data⟩ (by simp) rfl _ _ rfl rfl
          have c0 : w1.cell? ⟨B, 2, none⟩ = some (.slice AP j cP) := Below.keeps hk.ext _ _ (by simp [go_sem, x0, x2, kj, pu, hlB, hlg, hlk, h3, h5, hnk0])
          have c1 : w1.cell? ⟨gk, j, none⟩ = some (.slice (some ⟨kb9, ko9, none⟩) nk9 ck9) := Below.keeps hk.ext _ _ (by simp [go_sem, x0, x2, kj, pu, hlB, hlg, hlk, h3, h5, hnk0])
          have c2 : w1.cell? ⟨kb9, ko9, none⟩ = some (.slice AU9 nU9 cU9) := Below.keeps hk.ext _ _ (by simp [go_sem, x0, x2, kj, pu, hlB, hlg, hlk, h3, h5, hnk0])
          have c3 : w1.cell? ⟨B, 0, none⟩ = some (.int .i64 (n : Nat)) := Below.keeps hk.ext _ _ (by simp [go_sem, x0, x2, kj, pu, hlB, hlg, hlk, h3, h5, hnk0])
          simp [Region.wanted, Oper.wp, Act.eval, go_sem, d36, c0, c1, c2, c3, x0, x2, kj, pu, hlB, hlg, hlk, h3, h5, hnk0]
          exact hK _ _ (Below.refl _ _) rfl
          | 2, _ =>
          obtain rfl := Option.some.inj hoq
          intro a1 w1 K hk hK
          have e4 : a1.tmps.getD 4 undef = .slice (some ⟨gk, 0, none⟩) ks.length ck := hk.same 4 (by simp)
          simp [Region.wanted, Oper.wp, Act.eval, go_sem, e4, x0, x2, kj, pu, hlB, hlg, hlk, h3, h5, hnk0]
          exact hK _ _ (Below.refl _ _) rfl
          | 3, _ =>
          obtain rfl := Option.some.inj hoq
          intro a1 w1 K hk hK
          have e5 : a1.tmps.getD 5 undef = .int .i64 (j : Nat) := hk.same 5 (by simp)
          simp [Region.wanted, Oper.wp, Act.eval, go_sem, e5, x0, x2, kj, pu, hlB, hlg, hlk, h3, h5, hnk0]
          exact hK _ _ (Below.refl _ _) rfl
          | 4, _ =>
          obtain rfl := Option.some.inj hoq
          intro a1 w1 K hk hK
          have d38 : a1.tmps.getD 38 undef = .slice (some ⟨gk, 0, none⟩) ks.length ck := hk.deps ⟨2, .data⟩ (by simp) rfl _ _ rfl rfl
          have d39 : a1.tmps.getD 39 undef = .int .i64 (j : Nat) := hk.deps ⟨3, .data⟩ (by simp) rfl _ _ rfl rfl
          simp [Region.wanted, Oper.wp, Act.eval, go_sem, d38, d39, x0, x2, kj, pu, hlB, hlg, hlk, h3, h5, hnk0]
          exact hK _ _ (Below.refl _ _) rfl
          | 5, _ =>
          obtain rfl := Option.some.inj hoq
          intro a1 w1 K hk hK
          have d40 : a1.tmps.getD 40 undef = .pointer (some ⟨gk, j, none⟩) := hk.deps ⟨4, .data⟩ (by simp) rfl _ _ rfl rfl
          have c0 : w1.cell? ⟨B, 2, none⟩ = some (.slice AP j cP) := Below.keeps hk.ext _ _ (by simp [go_sem, x0, x2, kj, pu, hlB, hlg, hlk, h3, h5, hnk0])
          have c1 : w1.cell? ⟨gk, j, none⟩ = some (.slice (some ⟨kb9, ko9, none⟩) nk9 ck9) := Below.keeps hk.ext _ _ (by simp [go_sem, x0, x2, kj, pu, hlB, hlg, hlk, h3, h5, hnk0])
          have c2 : w1.cell? ⟨kb9, ko9, none⟩ = some (.slice AU9 nU9 cU9) := Below.keeps hk.ext _ _ (by simp [go_sem, x0, x2, kj, pu, hlB, hlg, hlk, h3, h5, hnk0])
          have c3 : w1.cell? ⟨B, 0, none⟩ = some (.int .i64 (n : Nat)) := Below.keeps hk.ext _ _ (by simp [go_sem, x0, x2, kj, pu, hlB, hlg, hlk, h3, h5, hnk0])
          simp [Region.wanted, Oper.wp, Act.eval, go_sem, d40, c0, c1, c2, c3, x0, x2, kj, pu, hlB, hlg, hlk, h3, h5, hnk0]
          exact hK _ _ (Below.refl _ _) rfl
          | 6, _ =>
          obtain rfl := Option.some.inj hoq
          intro a1 w1 K hk hK
          have d41 : a1.tmps.getD 41 undef = .slice (some ⟨kb9, ko9, none⟩) nk9 ck9 := hk.deps ⟨5, .data⟩ (by simp) rfl _ _ rfl rfl
          simp [Region.wanted, Oper.wp, Act.eval, go_sem, d41, x0, x2, kj, pu, hlB, hlg, hlk, h3, h5, hnk0]
          exact hK _ _ (Below.refl _ _) rfl
          | 7, _ =>
          obtain rfl := Option.some.inj hoq
          intro a1 w1 K hk hK
          have d42 : a1.tmps.getD 42 undef = .pointer (some ⟨kb9, ko9, none⟩) := hk.deps ⟨6, .data⟩ (by simp) rfl _ _ rfl rfl
          simp [Region.wanted, Oper.wp, Act.eval, go_sem, d42, x0, x2, kj, pu, hlB, hlg, hlk, h3, h5, hnk0]
          exact hK _ _ (Below.refl _ _) rfl
          | 8, _ =>
          obtain rfl := Option.some.inj hoq
          intro a1 w1 K hk hK
          have d43 : a1.tmps.getD 43 undef = .pointer (some ⟨kb9, ko9, none⟩) := hk.deps ⟨7, .data⟩ (by simp) rfl _ _ rfl rfl
          have c0 : w1.cell? ⟨B, 2, none⟩ = some (.slice AP j cP) := Below.keeps hk.ext _ _ (by simp [go_sem, x0, x2, kj, pu, hlB, hlg, hlk, h3, h5, hnk0])
          have c1 : w1.cell? ⟨gk, j, none⟩ = some (.slice (some ⟨kb9, ko9, none⟩) nk9 ck9) := Below.keeps hk.ext _ _ (by simp [go_sem, x0, x2, kj, pu, hlB, hlg, hlk, h3, h5, hnk0])
          have c2 : w1.cell? ⟨kb9, ko9, none⟩ = some (.slice AU9 nU9 cU9) := Below.keeps hk.ext _ _ (by simp [go_sem, x0, x2, kj, pu, hlB, hlg, hlk, h3, h5, hnk0])
          have c3 : w1.cell? ⟨B, 0, none⟩ = some (.int .i64 (n : Nat)) := Below.keeps hk.ext _ _ (by simp [go_sem, x0, x2, kj, pu, hlB, hlg, hlk, h3, h5, hnk0])
          simp [Region.wanted, Oper.wp, Act.eval, go_sem, d43, c0, c1, c2, c3, x0, x2, kj, pu, hlB, hlg, hlk, h3, h5, hnk0]
          exact hK _ _ (Below.refl _ _) rfl
          | 9, _ =>
          obtain rfl := Option.some.inj hoq
          intro a1 w1 K hk hK
          have e3 : a1.tmps.getD 3 undef = .pointer (some ⟨B, 0, none⟩) := hk.same 3 (by simp)
          simp [Region.wanted, Oper.wp, Act.eval, go_sem, e3, x0, x2, kj, pu, hlB, hlg, hlk, h3, h5, hnk0]
          exact hK _ _ (Below.refl _ _) rfl
          | 10, _ =>
          obtain rfl := Option.some.inj hoq
          intro a1 w1 K hk hK
          have d45 : a1.tmps.getD 45 undef = .pointer (some ⟨B, 0, none⟩) := hk.deps ⟨9, .data⟩ (by simp) rfl _ _ rfl rfl
          have c0 : w1.cell? ⟨B, 2, none⟩ = some (.slice AP j cP) := Below.keeps hk.ext _ _ (by simp [go_sem, x0, x2, kj, pu, hlB, hlg, hlk, h3, h5, hnk0])
          have c1 : w1.cell? ⟨gk, j, none⟩ = some (.slice (some ⟨kb9, ko9, none⟩) nk9 ck9) := Below.keeps hk.ext _ _ (by simp [go_sem, x0, x2, kj, pu, hlB, hlg, hlk, h3, h5, hnk0])
          have c2 : w1.cell? ⟨kb9, ko9, none⟩ = some (.slice AU9 nU9 cU9) := Below.keeps hk.ext _ _ (by simp [go_sem, x0, x2, kj, pu, hlB, hlg, hlk, h3, h5, hnk0])
          have c3 : w1.cell? ⟨B, 0, none⟩ = some (.int .i64 (n : Nat)) := Below.keeps hk.ext _ _ (by simp [go_sem, x0, x2, kj, pu, hlB, hlg, hlk, h3, h5, hnk0])
          simp [Region.wanted, Oper.wp, Act.eval, go_sem, d45, c0, c1, c2, c3, x0, x2, kj, pu, hlB, hlg, hlk, h3, h5, hnk0]
          exact hK _ _ (Below.refl _ _) rfl
          | 11, _ =>
          obtain rfl := Option.some.inj hoq
          intro a1 w1 K hk hK
          have d44 : a1.tmps.getD 44 undef = .slice AU9 nU9 cU9 := hk.deps ⟨8, .data⟩ (by simp) rfl _ _ rfl rfl
          have d46 : a1.tmps.getD 46 undef = .int .i64 (n : Nat) := hk.deps ⟨10, .data⟩ (by simp) rfl _ _ rfl rfl
          simp [Region.wanted, Oper.wp, Act.eval, go_sem, d44, d46, x0, x2, kj, pu, hlB, hlg, hlk, h3, h5, hnk0]
          refine (HAD.out _ (below_trans (by repeat (first | exact Below.refl _ _ | (refine Below.drew ?_) | (refine below_drewN' ?_ _) | (refine below_alloc' ?_ _) | (refine Below.setCell ?_ (by first | exact Nat.le_refl _ | (simp; done) | (simp; omega)) _))) hk.ext)).mono ?_
          rintro e w9 ⟨rfl, hw9⟩
          obtain rfl := hw9.symm
          exact hK _ _ (Below.refl _ _) rfl
          | 12, _ =>
          obtain rfl := Option.some.inj hoq
          intro a1 w1 K hk hK
          have d47 : a1.tmps.getD 47 undef = .int .i64 (ad : Nat) := hk.deps ⟨11, .data⟩ (by simp) rfl _ _ rfl rfl
          have d47x : a1.tmps[47]?.getD undef = .int .i64 (ad : Nat) := by rw [← d47]; simp
          simp [Region.wanted, Oper.wp, Act.eval, go_sem, d47, d47x, x0, x2, kj, pu, hlB, hlg, hlk, h3, h5, hnk0]
          exact hK _ _ (below_alloc' (Below.refl _ _) _) ⟨_, rfl, alloc_cell0 _ _ _⟩
        · intro vs w3 hl hb3 hv
          match vs, hl with
          | [v0, v1, v2, v3, v4, v5, v6, v7, v8, v9, v10, v11, v12], _ =>
          obtain rfl : v0 = .pointer (some ⟨B, 2, none⟩) := hv 0 (by omega)
          obtain rfl : v1 = .slice AP j cP := hv 1 (by omega)
          obtain rfl : v2 = .slice (some ⟨gk, 0, none⟩) ks.length ck := hv 2 (by omega)
          obtain rfl : v3 = .int .i64 (j : Nat) := hv 3 (by omega)
          obtain rfl : v4 = .pointer (some ⟨gk, j, none⟩) := hv 4 (by omega)
          obtain rfl : v5 = .slice (some ⟨kb9, ko9, none⟩) nk9 ck9 := hv 5 (by omega)
          obtain rfl : v6 = .pointer (some ⟨kb9, ko9, none⟩) := hv 6 (by omega)
          obtain rfl : v7 = .pointer (some ⟨kb9, ko9, none⟩) := hv 7 (by omega)
          obtain rfl : v8 = .slice AU9 nU9 cU9 := hv 8 (by omega)
          obtain rfl : v9 = .pointer (some ⟨B, 0, none⟩) := hv 9 (by omega)
          obtain rfl : v10 = .int .i64 (n : Nat) := hv 10 (by omega)
          obtain rfl : v11 = .int .i64 (ad : Nat) := hv 11 (by omega)
          have q12 : ∃ g9, v12 = .slice (some ⟨g9, 0, none⟩) 1 1 ∧ w3.cell? ⟨g9, 0, none⟩ = some (.int .i64 (ad : Nat)) := hv 12 (by omega)
          clear hv
          simp only [putAll, List.take_succ_cons, List.take_zero, List.drop_succ_cons, List.drop_zero, Act.put, List.setIfInBounds_toArray, List.set_cons_succ, List.set_cons_zero]
          obtain ⟨g9, rfl, hg9⟩ := q12
          have hb4 : Below wr.heap.size wr w3 := below_trans (by repeat (first | exact Below.refl _ _ | (refine Below.drew ?_) | (refine below_drewN' ?_ _) | (refine below_alloc' ?_ _) | (refine Below.setCell ?_ (by first | exact Nat.le_refl _ | (simp; done) | (simp; omega)) _))) hb3
          have hI3 : SIv w w3 B n j (.slice AU2 k cU2) (.slice (some ⟨gk, 0, none⟩) ks.length ck) pre kvs ks := ⟨⟨_, (hb4.block B hlB).trans HPV.out.1, HPV.out.2.below hb4⟩, HI.out.u.below hb4, HI.out.kv.below hb4, HI.out.bel.trans (hb4.mono HI.out.bel.size), (hb4.block _ (kr_lt HI.out.res)).trans HI.out.res⟩
          have HI3 := Lib.hid (And.intro hI3 (And.intro ((hb4.block B hlB).trans HPV.out.1) (HPV.out.2.below hb4)))
          clear hb3 hb4 hI3 x0 x2 kj pu
          go_wp2_with (at_builtin; refine wpList_append_V rfl (.tmp 37) (.tmp 48) rfl w (plV ks j) (.int .i64 (ad : Nat)) intsT ?_ ?_ ?_ ?_ ?_)
          · exact HI3.out.2.2
          · exact ⟨_, _, rfl, hg9, rfl⟩
          · exact HI3.out.1.bel.size
          · rw [plV_len ks j hj]; have := HN2.out.1; omega
          intro v' w4 hown' hg
          have hbk4 := (grown_keep HI3.out.2.2 hg (t := 222) (by decide) HI3.out.2.1).trans HI3.out.2.1
          have hu4 := HI3.out.1.u.keepBlock fun b cur hb => grown_keep HI3.out.2.2 hg (by decide) hb
          have hk4 := HI3.out.1.kv.keepBlock fun b cur hb => grown_keep HI3.out.2.2 hg (by decide) hb
          have hb4 := HI3.out.2.2.grown HI3.out.1.bel hg
          have hr4 := (grown_keep HI3.out.2.2 hg (t := 222) (by decide) HI3.out.1.res).trans HI3.out.1.res
          have HJ := Lib.hid (And.intro hbk4 (And.intro hu4 (And.intro hk4 (And.intro hb4 (And.intro hown' hr4)))))
          have x2 : w4.cell? ⟨B, 2, none⟩ = some (.slice AP j cP) := by simp only [World.cell?, hbk4]; simp
          have f2 : w4.frozen? ⟨B, 2, none⟩ = false := by simp [World.frozen?, hbk4]
          have hlB4 := kr_lt hbk4
          obtain ⟨AP4, cP4, e4⟩ := hown'.shape
          rw [List.length_append, plV_len ks j hj, List.length_singleton] at e4
          subst e4
          clear hbk4 hu4 hk4 hb4 hown' hg hg9 hr4
          go_wp2_with fail
          go_roundw
          case rel =>
            refine ⟨j + 1, by omega, (by first | rw [HW.out] | rfl | simp), ⟨⟨.slice AP4 (j + 1) cP4, by simpa using kr_set (k := 2) (u := .slice AP4 (j + 1) cP4) HJ.out.1, ?_⟩, HJ.out.2.1.set HJ.out.1 (by decide), HJ.out.2.2.1.set HJ.out.1 (by decide), HJ.out.2.2.2.1.setCell (p := ⟨B, 2, none⟩) HF.out.2.2.2 _, (kr_far (Nat.ne_of_lt HRS.out.2)).trans HJ.out.2.2.2.2.2⟩⟩
            rw [HPS.out]
            exact HJ.out.2.2.2.2.1.set HJ.out.1 (by decide)
          case measure => (first | (rw [intOf_of' HW.out, intOf_of' rfl]; omega) | (simp [intOf]; omega) | (simp [intOf] <;> omega))
      · obtain rfl : j = ks.length := by omega
        have h3 : ¬ (ks.length : Int) < (ks.length : Int) := by omega
        obtain ⟨pv, hBk, hpv⟩ := hI.blk
        have hres := hI.res
        obtain ⟨AP, cP, e8⟩ := hpv.shape
        rw [plV_len ks _ (Nat.le_refl _)] at e8
        subst e8
        have hbl := hI.bel
        have k0' := Below.keeps hbl _ _ HK0.out.1
        have hlb' := Nat.lt_of_lt_of_le hlb hbl.size
        have hBR : ¬ B = w.heap.size := fun e => absurd HRS.out.2 (by omega)
        have hRB : ¬ w.heap.size = B := fun e => absurd HRS.out.2 (by omega)
        have hBlb : ¬ B = lb := by have := HRS.out.2; omega
        have x0 : wr.cell? ⟨B, 0, none⟩ = some (.int .i64 (n : Nat)) := by simp only [World.cell?, hBk]; simp
        have x1 : wr.cell? ⟨B, 1, none⟩ = some (.slice AU2 k cU2) := by simp only [World.cell?, hBk]; simp
        have x2 : wr.cell? ⟨B, 2, none⟩ = some (.slice AP ks.length cP) := by simp only [World.cell?, hBk]; simp
        have x3 : wr.cell? ⟨B, 3, none⟩ = some (.bool false) := by simp only [World.cell?, hBk]; simp
        have x4 : wr.cell? ⟨B, 4, none⟩ = some (.int .u64 0) := by simp only [World.cell?, hBk]; simp
        have xf : wr.frozen? ⟨B, 3, none⟩ = false := by simp [World.frozen?, hBk]
        have r0 : wr.cell? ⟨w.heap.size, 0, none⟩ = some (.int .i64 0) := by simp only [World.cell?, hres]; simp
        have rf0 : wr.frozen? ⟨w.heap.size, 0, none⟩ = false := by simp [World.frozen?, hres]
        have r1 : wr.cell? ⟨w.heap.size, 1, none⟩ = some (.slice none 0 0) := by simp only [World.cell?, hres]; simp
        have rf1 : wr.frozen? ⟨w.heap.size, 1, none⟩ = false := by simp [World.frozen?, hres]
        have r2 : wr.cell? ⟨w.heap.size, 2, none⟩ = some (.slice none 0 0) := by simp only [World.cell?, hres]; simp
        have rf2 : wr.frozen? ⟨w.heap.size, 2, none⟩ = false := by simp [World.frozen?, hres]
        have r3 : wr.cell? ⟨w.heap.size, 3, none⟩ = some (.bool false) := by simp only [World.cell?, hres]; simp
        have rf3 : wr.frozen? ⟨w.heap.size, 3, none⟩ = false := by simp [World.frozen?, hres]
        have r4 : wr.cell? ⟨w.heap.size, 4, none⟩ = some (.int .u64 0) := by simp only [World.cell?, hres]; simp
        have rf4 : wr.frozen? ⟨w.heap.size, 4, none⟩ = false := by simp [World.frozen?, hres]
        have hlB := kr_lt hBk
        have hlR := kr_lt hres
        have HPV := Lib.hid (And.intro hBk (And.intro hpv hres))
        have HB9 := Lib.hid hbl
        clear hBk hpv hI hbl hres
        go_wp2_with fail
        refine (HDN.out _).mono ?_
        rintro e w5 ⟨rfl, hw5⟩
        obtain rfl := hw5.symm
        go_wp2_with fail
        refine bodyPost_ret (v := .agg #[.int .i64 (n : Nat), .slice AU2 k cU2, .slice AP ks.length cP, .bool (densB k ks.length), .int .u64 0]) (by simp [results, Tryz.results138, go_sem, r0, r1, r2, r3, r4, hBR, hRB]) rfl ?_
        have hB' : ShB wr B := ⟨_, _, HPV.out.1⟩
        have hR' : ShB wr w.heap.size := ⟨_, _, HPV.out.2.2⟩
        have hP := HPV.out.2.1
        rw [plV_all] at hP
        rw [HSH.out]
        exact ⟨_, rfl, ⟨_, _, rfl, (.inr ((HI.out.u.setS6 hB' hR' (by decide)).pt (by rw [HPL.out.1]; exact HKS.out.1.k1))), hP.setS6 hB' hR' (by decide)⟩,
          (((((HB9.out.setCell (p := ⟨B, 3, none⟩) (Nat.le_of_lt HRS.out.2) _).setCell (p := ⟨w.heap.size, 0, none⟩) (Nat.le_refl _) _).setCell (p := ⟨w.heap.size, 1, none⟩) (Nat.le_refl _) _).setCell (p := ⟨w.heap.size, 2, none⟩) (Nat.le_refl _) _).setCell (p := ⟨w.heap.size, 3, none⟩) (Nat.le_refl _) _).setCell (p := ⟨w.heap.size, 4, none⟩) (Nat.le_refl _) _⟩
end Go.Proofs.YtdkomhmciihkiaaGreat
/-! RowS -/
namespace Go.Proofs.YtdkomhmciihkiaaGreat
open Go.RowKit
set_option linter.unusedVariables false
set_option linter.unusedSimpArgs false

theorem shapeInfo : (Tryz.prog.info? 222).map (fun i => (i.zero, i.size, i.bytes)) = some (some (.agg #[.int .i64 0, .slice none 0 0, .slice none 0 0, .bool false, .int .u64 0]), 5, 72) := by kernel_rfl
/-- a shape's rows: the point's, the places' -/
abbrev PtS' := Value → Value → Sh → Prop
/-- the cells cs hold the shapes l, Pt saying what their rows read as -/
def CellsS (Pt : PtS') : List Sh → List Value → Prop
  | [], cs => cs = []
  | s :: l, cs => ∃ u pl ds, cs = .int .i64 s.lv :: u :: pl :: .bool s.dense :: .int .u64 (s.v : Nat) :: ds ∧ Pt u pl s ∧ CellsS Pt l ds
theorem CellsS.length {Pt : PtS'} {cs : List Value} {l : List Sh} (h : CellsS Pt l cs) : cs.length = l.length * 5 := by
  induction l generalizing cs with
  | nil => obtain rfl : cs = [] := h; rfl
  | cons e l ih => obtain ⟨u, pl, ds, rfl, _, h⟩ := h; have := ih h; simp; omega
theorem CellsS.append {Pt : PtS'} {cs ds : List Value} {l m : List Sh} (h : CellsS Pt l cs) (k : CellsS Pt m ds) : CellsS Pt (l ++ m) (cs ++ ds) := by
  induction l generalizing cs with
  | nil => obtain rfl : cs = [] := h; exact k
  | cons e l ih => obtain ⟨u, pl, ds, rfl, hu, h⟩ := h; exact ⟨u, pl, _, rfl, hu, ih h⟩
theorem CellsS.mono {Pt Qt : PtS'} {cs : List Value} {l : List Sh} (h : CellsS Pt l cs) (hk : ∀ u p s, Pt u p s → Qt u p s) : CellsS Qt l cs := by
  induction l generalizing cs with
  | nil => exact h
  | cons e l ih => obtain ⟨u, pl, ds, rfl, hu, h⟩ := h; exact ⟨u, pl, ds, rfl, hk _ _ _ hu, ih h⟩
/-- rows are slices -/
def SlicesP (Pt : PtS') : Prop := ∀ u p s, Pt u p s → u.oneCell' = true ∧ p.oneCell' = true
theorem CellsS.oneCell {Pt : PtS'} (hp : SlicesP Pt) {cs : List Value} {l : List Sh} (h : CellsS Pt l cs) : ∀ u ∈ cs, u.oneCell' = true := by
  induction l generalizing cs with
  | nil => obtain rfl : cs = [] := h; intro u hu; simp at hu
  | cons e l ih =>
    obtain ⟨u, pl, ds, rfl, hu, h⟩ := h
    intro y hy
    simp only [List.mem_cons] at hy
    rcases hy with rfl | rfl | rfl | rfl | rfl | hy
    · rfl
    · exact (hp _ _ _ hu).1
    · exact (hp _ _ _ hu).2
    · rfl
    · rfl
    · exact ih h y hy
/-- a shape at a block's offset -/
def ShAt (Pt : PtS') (w : World) (b o : Nat) (s : Sh) : Prop := ∃ u pl, w.cell? ⟨b, o, none⟩ = some (.int .i64 s.lv) ∧ w.cell? ⟨b, o + 1, none⟩ = some u ∧ w.cell? ⟨b, o + 2, none⟩ = some pl ∧ w.cell? ⟨b, o + 3, none⟩ = some (.bool s.dense) ∧ w.cell? ⟨b, o + 4, none⟩ = some (.int .u64 (s.v : Nat)) ∧ Pt u pl s
theorem CellsS.at {Pt : PtS'} {w : World} {cs : List Value} {l : List Sh} (h : CellsS Pt l cs) {b o : Nat} (hc : ∀ j (h : j < cs.length), w.cell? ⟨b, o + j, none⟩ = some cs[j]) :
    ∀ j (h : j < l.length), ShAt Pt w b (o + j * 5) l[j] := by
  induction l generalizing cs o with
  | nil => intro j hj; simp at hj
  | cons e l ih =>
    obtain ⟨u, pl, ds, rfl, hu, h⟩ := h
    · intro j hj
      cases j with
      | zero =>
        have c0 := hc 0 (by simp)
        have c1 := hc 1 (by simp)
        have c2 := hc 2 (by simp)
        have c3 := hc 3 (by simp)
        have c4 := hc 4 (by simp)
        simp only [List.getElem_cons_zero, List.getElem_cons_succ, Nat.add_zero] at c0 c1 c2 c3 c4
        simp only [List.getElem_cons_zero, Nat.zero_mul, Nat.add_zero]
        exact ⟨u, pl, c0, c1, c2, c3, c4, hu⟩
      | succ j =>
        have := ih h (o := o + 5) (fun i hi => by
          have := hc (i + 5) (by simpa using hi)
          simp only [List.getElem_cons_succ] at this
          rw [show o + 5 + i = o + (i + 5) by omega]; exact this) j (by simpa using hj)
        simp only [List.getElem_cons_succ]
        rw [show o + (j + 1) * 5 = o + 5 + j * 5 by omega]; exact this
/-- the slice value v reads as the list l of shapes -/
def RdS (Pt : PtS') (w : World) (v : Value) (l : List Sh) : Prop :=
  ∃ A c, v = .slice A l.length c ∧ (0 < l.length → ∃ b, A = some ⟨b, 0, none⟩ ∧ ∀ j (h : j < l.length), ShAt Pt w b (j * 5) l[j])
/-- v is a row of the call's own (the call began in W) that holds the shapes l -/
def OwnS (Pt : PtS') (W w : World) (v : Value) (l : List Sh) : Prop := ∃ cs, w.ownsRow W.heap.size 222 5 v l.length cs ∧ CellsS Pt l cs
theorem OwnS.cellsAt {W w : World} {v : Value} {l : List Sh} {cs : List Value} (ho : w.ownsRow W.heap.size 222 5 v l.length cs) (hl : cs.length = l.length * 5) :
    (v = .slice none 0 0 ∧ l.length = 0) ∨ ∃ g cap, v = .slice (some ⟨g, 0, none⟩) l.length cap ∧ ∀ j (h : j < cs.length), w.cell? ⟨g, j, none⟩ = some cs[j] := by
  obtain ⟨h1, h2⟩ := ho
  rcases h2 with ⟨rfl, h0⟩ | ⟨g, cap, cur, rfl, hg, hh, hcap, hm, hs, ht⟩
  · exact .inl ⟨rfl, h0⟩
  · refine .inr ⟨g, cap, rfl, fun j hj => ?_⟩
    have h3 : cs[j]? = some cs[j] := List.getElem?_eq_getElem hj
    have h4 : j < l.length * 5 := by omega
    rw [← h3, ← ht, List.getElem?_take_of_lt h4, World.cell?]
    simp only [hh]
    simp
theorem OwnS.rd {Pt : PtS'} {W w : World} {v : Value} {l : List Sh} (h : OwnS Pt W w v l) : RdS Pt w v l := by
  obtain ⟨cs, ho, hc⟩ := h
  rcases OwnS.cellsAt ho hc.length with ⟨rfl, h0⟩ | ⟨g, cap, rfl, h1⟩
  · exact ⟨none, 0, by rw [h0], fun hp => absurd hp (by omega)⟩
  · refine ⟨_, _, rfl, fun h0 => ⟨g, rfl, fun j hj => ?_⟩⟩
    have := hc.at (b := g) (o := 0) (w := w) (fun j hj => by rw [Nat.zero_add]; exact h1 j hj) j hj
    rw [Nat.zero_add] at this; exact this
theorem OwnS.nil (Pt : PtS') (W w : World) : OwnS Pt W w (.slice none 0 0) [] := ⟨[], World.ownsRow_nil _ _ _ _, rfl⟩
theorem OwnS.mono {Pt Qt : PtS'} {W w : World} {v : Value} {l : List Sh} (h : OwnS Pt W w v l) (hk : ∀ u p s, Pt u p s → Qt u p s) : OwnS Qt W w v l := let ⟨cs, h1, h2⟩ := h; ⟨cs, h1, h2.mono hk⟩
theorem OwnS.below {Pt : PtS'} {W w w' : World} {v : Value} {l : List Sh} (h : OwnS Pt W w v l) (hb : Below w.heap.size w w') : OwnS Pt W w' v l := by
  obtain ⟨cs, ⟨h1, h2⟩, h3⟩ := h
  refine ⟨cs, ⟨h1, ?_⟩, h3⟩
  rcases h2 with h2 | ⟨g, cap, cur, q1, q2, q3, q4⟩
  · exact .inl h2
  · exact .inr ⟨g, cap, cur, q1, q2, (hb.block g (Array.getElem?_eq_some_iff.1 q3).1).trans q3, q4⟩
theorem OwnS.block {Pt : PtS'} {W w : World} {v : Value} {l : List Sh} (h : OwnS Pt W w v l) : ∀ k, v.ownBlock = some k → W.heap.size ≤ k ∧ ∃ cur, w.heap[k]? = some (.cells cur 222 (0, 0)) := by
  obtain ⟨cs, ⟨h1, h2⟩, h3⟩ := h
  intro k hk
  rcases h2 with ⟨rfl, _⟩ | ⟨g, cap, cur, rfl, q2, q3, q4⟩
  · cases hk
  · injection hk with hk; subst hk; exact ⟨q2, cur, q3⟩
theorem OwnS.grown {Pt : PtS'} {W w w' : World} {v : Value} {l : List Sh} (h : OwnS Pt W w v l) (hb : Below W.heap.size W w) (hg : w.grownBy w' v.ownBlock) : Below W.heap.size W w' :=
  hb.grown hg hb.size fun k hk => (h.block k hk).1
/-- shapes to be appended -/
def SrcS (Pt : PtS') (w : World) (x : Value) (m : List Sh) : Prop := ∃ cs, CellsS Pt m cs ∧ Src w 5 m.length x cs
theorem OwnS.src {Pt : PtS'} (hp : SlicesP Pt) {W w : World} {v : Value} {l : List Sh} (h : OwnS Pt W w v l) : SrcS Pt w v l := by
  obtain ⟨cs, ho, hc⟩ := h
  refine ⟨cs, hc, hc.length, hc.oneCell hp, ?_⟩
  rcases OwnS.cellsAt ho hc.length with ⟨rfl, h0⟩ | ⟨g, cap, rfl, h1⟩
  · exact ⟨none, 0, by rw [h0], fun _ => ⟨h0, rfl⟩, fun ad had => by cases had⟩
  · refine ⟨_, _, rfl, (fun h => by cases h), fun ad had j u hj => ?_⟩
    injection had with had; subst had
    obtain ⟨hj', rfl⟩ := List.getElem?_eq_some_iff.1 hj
    have := h1 j hj'
    cases j with
    | zero => simpa [Addr.add] using this
    | succ j => simpa [Addr.add] using this
theorem SrcS.one {Pt : PtS'} (hp : SlicesP Pt) {w : World} {b cc : Nat} {s : Sh} {u pl : Value} (hu : Pt u pl s) (k0 : w.cell? ⟨b, 0, none⟩ = some (.int .i64 s.lv)) (k1 : w.cell? ⟨b, 1, none⟩ = some u) (k2 : w.cell? ⟨b, 2, none⟩ = some pl)
    (k3 : w.cell? ⟨b, 3, none⟩ = some (.bool s.dense)) (k4 : w.cell? ⟨b, 4, none⟩ = some (.int .u64 (s.v : Nat))) : SrcS Pt w (.slice (some ⟨b, 0, none⟩) 1 cc) [s] := by
  have hn : CellsS Pt [s] [.int .i64 s.lv, u, pl, .bool s.dense, .int .u64 (s.v : Nat)] := ⟨u, pl, [], rfl, hu, rfl⟩
  refine ⟨_, hn, rfl, hn.oneCell hp, _, cc, rfl, (fun h => by cases h), fun ad had j x hj => ?_⟩
  injection had with had; subst had
  match j with
  | 0 => simp at hj; subst hj; simpa [Addr.add] using k0
  | 1 => simp at hj; subst hj; simpa [Addr.add] using k1
  | 2 => simp at hj; subst hj; simpa [Addr.add] using k2
  | 3 => simp at hj; subst hj; simpa [Addr.add] using k3
  | 4 => simp at hj; subst hj; simpa [Addr.add] using k4
  | j + 5 => simp at hj
theorem run_append_S {Pt : PtS'} (W w : World) (v x : Value) (l m : List Sh) (hown : OwnS Pt W w v l) (hx : SrcS Pt w x m) (hb : W.heap.size ≤ w.heap.size) (hlen : l.length + m.length ≤ 100000) (ty : TypeId) :
    ∃ v' w', (Builtin.append_ #[124, 124] ty #[v, x]).run Tryz.prog w = .ok v' w' ∧ OwnS Pt W w' v' (l ++ m) ∧ w.grownBy w' v.ownBlock := by
  obtain ⟨cs, ho, hc⟩ := hown
  obtain ⟨ds, hd, hsrc⟩ := hx
  obtain ⟨v', w', a1, a2, a3⟩ := run_append_src (P := Tryz.prog) w W.heap.size 124 ty 222 _ 5 72 Tryz.underlying124 shapeInfo rfl (by omega) v l.length cs ho x m.length ds hsrc (by simp only [maxLen]; omega) (by omega) hb
  exact ⟨v', w', a1, ⟨_, by rw [List.length_append]; exact a2, hc.append hd⟩, a3⟩
theorem wpList_append_S {Pt : PtS'} {w : World} {ops : Array Oper} {rest : List Oper} {o : Oper} {a : Act} {Q : Exit → Act → World → Prop} (hgd : o.guard = none) (s x : Operand)
    (ho : o.op = .call { callee := .builtin .append, args := #[s, x], argTypes := #[124, 124] }) (W : World) (l m : List Sh)
    (hown : OwnS Pt W w (a.eval s) l) (hx : SrcS Pt w (a.eval x) m) (hb : W.heap.size ≤ w.heap.size) (hlen : l.length + m.length ≤ 100000)
    (h : ∀ v' w', OwnS Pt W w' v' (l ++ m) → w.grownBy w' (a.eval s).ownBlock → wpList Tryz.prog ops Q rest (a.put o.dst v') w') : wpList Tryz.prog ops Q (o :: rest) a w := by
  refine wpList_plain hgd fun K hK => ?_
  obtain ⟨v', w', hrun, r1, r2⟩ := run_append_S W w _ _ l m hown hx hb hlen o.type
  unfold Oper.wp
  simp [execOp, ho, resolve, invoke, builtin, hrun, Result.andThen]
  exact hK _ _ (h v' w' r1 r2)
end Go.Proofs.YtdkomhmciihkiaaGreat
/-! RefU -/
namespace Go.Proofs.YtdkomhmciihkiaaGreat
open Go.RowKit
set_option linter.unusedVariables false
set_option linter.unusedSimpArgs false
set_option maxRecDepth 100000

/-- what a shape's rows read as -/
def PtK (W0 W w : World) : PtS' := fun u pl s => (RdU W0 u (pti s.pre) ∨ PtNew w u s.pre) ∧ OwnV 3 W w pl (s.pl.map fun (x : Nat) => Value.int .i64 (x : Nat))
theorem PtK.below {W0 W w w' : World} (hb : Below w.heap.size w w') : ∀ u p s, PtK W0 W w u p s → PtK W0 W w' u p s := fun u p s h => ⟨h.1.imp id (·.below hb), h.2.below hb⟩
theorem PtK.base {W0 W W' w : World} (hs : W.heap.size ≤ W'.heap.size) : ∀ u p s, PtK W0 W' w u p s → PtK W0 W w u p s := fun u p s h => ⟨h.1, h.2.base hs⟩
theorem PtK.grown {W0 W w w' : World} {Pt : PtS'} {v : Value} {l : List Sh} (ho : OwnS Pt W w v l) (hg : w.grownBy w' v.ownBlock) : ∀ u p s, PtK W0 W w u p s → PtK W0 W w' u p s := by
  have key : ∀ {b : Nat} {cur : Array Value} {t : TypeId} {fr : Nat × Nat}, t ≠ 222 → w.heap[b]? = some (.cells cur t fr) → w'.heap[b]? = w.heap[b]? := fun ht hb =>
    hg.block _ (kr_lt hb) fun e => by
      obtain ⟨_, c2, h2⟩ := ho.block _ e.symm
      rw [hb] at h2
      injection h2 with h2
      injection h2 with _ h2 _
      exact ht h2
  exact fun u p s h => ⟨h.1.imp id (·.keepBlock fun b cur fr hb => key (by decide) hb), h.2.keepBlock fun b cur hb => key (by decide) hb⟩
theorem slicesK (W0 W w : World) : SlicesP (PtK W0 W w) := by
  intro u p s h
  refine ⟨?_, ?_⟩
  · rcases h.1 with h1 | h1
    · exact RdU.one' h1
    · exact RdU.one' h1.rd
  · obtain ⟨A, c, rfl⟩ := h.2.shape
    rfl
theorem ShK.pt {W0 W w : World} {x : Value} {s : Sh} (h : ShK W0 W w x s) : ∃ u pl, x = .agg #[.int .i64 s.lv, u, pl, .bool s.dense, .int .u64 (s.v : Nat)] ∧ PtK W0 W w u pl s := let ⟨u, pl, h1, h2, h3⟩ := h; ⟨u, pl, h1, h2, h3⟩
/-- a row of shapes is handed back -/
def ShsP (W0 W : World) (l : List Sh) (e : Ending) (w' : World) : Prop := ∃ v, e = .returned v ∧ OwnS (PtK W0 W w') W w' v l ∧ Below W.heap.size W w'
theorem OwnS.lit1 {Pt : PtS'} {W w : World} {s : Sh} {u pl : Value} (hb : W.heap.size ≤ w.heap.size) (hu : Pt u pl s) : OwnS Pt W (w.alloc (.cells #[.int .i64 s.lv, u, pl, .bool s.dense, .int .u64 (s.v : Nat)] 222)) (.slice (some ⟨w.heap.size, 0, none⟩) 1 1) [s] :=
  ⟨[.int .i64 s.lv, u, pl, .bool s.dense, .int .u64 (s.v : Nat)], World.ownsRow_lit w #[.int .i64 s.lv, u, pl, .bool s.dense, .int .u64 (s.v : Nat)] 1 hb (by simp [maxLen]) (by simp), u, pl, [], rfl, hu, rfl⟩
theorem rShapes_one (W0 w : World) (e : En) (v : Value) (hv : RdE W0 v [e]) (hb0 : Below W0.heap.size W0 w) : Calls Tryz.prog 78 #[v] w fun e' w' => ShsP W0 w (shapesL [e]) e' w' := by
  have HSH := Lib.hid (rShape_one W0 w e v hv hb0)
  obtain ⟨A, c, rfl, _⟩ := hv
  rw [List.length_singleton] at HSH ⊢
  clear hb0
  go_enter Tryz.func78, Tryz.ntmps78
  go_wp2_with fail
  refine HSH.out.mono ?_
  rintro e w1 ⟨x, rfl, hx, hb⟩
  obtain ⟨u, pl, rfl, hpt⟩ := hx.pt
  have HX := Lib.hid (And.intro hpt hb)
  have h1 := (slicesK _ _ _ _ _ _ hpt)
  clear hx hb hpt
  go_wp2_with fail
  go_ret
  exact ⟨_, rfl, OwnS.lit1 HX.out.2.size (PtK.below (by repeat (first | exact Below.refl _ _ | (refine Below.drew ?_) | (refine below_drewN' ?_ _) | (refine below_alloc' ?_ _) | (refine Below.setCell ?_ (by first | exact Nat.le_refl _ | (simp; done) | (simp; omega)) _))) _ _ _ HX.out.1), below_alloc' HX.out.2 _⟩
theorem flat_len (ks : List (Nat × List En)) (h : ∀ x ∈ ks, (shapesL x.2).length + 1 ≤ 2 * x.2.length) : (ks.flatMap fun x => shapesL x.2).length + ks.length ≤ 2 * (cat ks).length := by
  induction ks with
  | nil => simp [cat]
  | cons x ks ih =>
    have h1 := h x (by simp)
    have h2 := ih fun y hy => h y (by simp [hy])
    unfold cat at h2 ⊢
    simp only [List.flatMap_cons, List.length_append, List.length_cons]
    omega
theorem Tn.len {k : Nat} {l : List En} (h : Tn k l) : (shapesL l).length + 1 ≤ 2 * l.length := by
  induction h with
  | one e h => rw [shapes_one]; simp
  | node n pre ks hk hn ih =>
    rw [Tn.shapes hk hn]
    have := flat_len ks ih
    have h2 := hk.two
    simp only [List.length_cons]
    omega
theorem flat_take (ks : List (Nat × List En)) (j : Nat) (hj : j < ks.length) : ((ks.take (j + 1)).flatMap fun x => shapesL x.2) = ((ks.take j).flatMap fun x => shapesL x.2) ++ shapesL ks[j].2 := by
  rw [← List.take_append_getElem hj, List.flatMap_append]; simp
set_option maxHeartbeats 2000000 in
theorem rShapes_node (W0 w : World) (k n : Nat) (pre : List Nat) (ks : List (Nat × List En)) (v : Value) (hk : Kd k n pre ks) (hn : ∀ x ∈ ks, Tn k x.2)
    (ih : ∀ x ∈ ks, ∀ (W0 w : World) (v : Value), RdE W0 v x.2 → Below W0.heap.size W0 w → EtS k x.2 → Calls Tryz.prog 78 #[v] w fun e' w' => ShsP W0 w (shapesL x.2) e' w')
    (hv : RdE W0 v (cat ks)) (hb0 : Below W0.heap.size W0 w) (he : EtS k (cat ks)) : Calls Tryz.prog 78 #[v] w fun e' w' => ShsP W0 w (shapesL (cat ks)) e' w' := by
  have HSH := Lib.hid (rShape_more W0 w k n pre ks v hk (hv.below hb0) he)
  have hl2 := hk.two_le
  have hl0 : 0 < (cat ks).length := by omega
  have HKD := Lib.hid (fun w' (hb : Below w.heap.size w w') => rKids_any k n (cat ks) v W0 w' hv (hb0.trans (hb.mono hb0.size)) he hk.lev hl0)
  rw [hk.kids] at HKD
  have hcl := cat_length ks hk.ne
  have HIH := Lib.hid (fun j (hj : j < ks.length) w' v' (hb : Below w.heap.size w w') (h : RdE W0 v' ks[j].2) => ih ks[j] (List.getElem_mem hj) W0 w' v' h (hb0.trans (hb.mono hb0.size)) ⟨hk.et _ (List.getElem_mem hj), he.k40, by have := hcl.2 _ (List.getElem_mem hj); have := he.short; omega⟩)
  have HTS := Lib.hid (And.intro (Tn.shapes hk hn) (And.intro (flat_len ks fun x hx => (hn x hx).len) (And.intro he.short (And.intro hk.two hcl.1))))
  obtain ⟨A, c, rfl, _⟩ := hv
  have h1f : (((cat ks).length : Int) == 1) = false := by rw [beq_eq_false_iff_ne]; omega
  have h0f : (((cat ks).length : Int) == 0) = false := by rw [beq_eq_false_iff_ne]; omega
  clear hb0 hk hn ih he hl2 hl0 hcl
  generalize cat ks = l at *
  go_enter Tryz.func78, Tryz.ntmps78
  go_wp2_with fail
  refine HSH.out.mono ?_
  rintro e w1 ⟨x, rfl, hx, hb⟩
  obtain ⟨u, pl, rfl, hpt⟩ := hx.pt
  have HX := Lib.hid (And.intro (OwnS.lit1 (Pt := PtK W0 w (w1.alloc (.cells #[.int .i64 (shL l).lv, u, pl, .bool (shL l).dense, .int .u64 ((shL l).v : Nat)] 222))) (w := w1) (W := w) hb.size (PtK.below (below_alloc' (Below.refl _ _) _) _ _ _ hpt)) hb)
  have h1 := (slicesK _ _ _ _ _ _ hpt)
  clear hx hb hpt
  go_wp2_with fail
  refine (HKD.out _ (below_alloc' HX.out.2 _)).mono ?_
  rintro e w4 ⟨kv, rfl, ⟨kvs, hkv, hvl, hvs⟩, hb5⟩
  rw [List.length_map] at hvl
  obtain ⟨gk, ck, rfl, hgk, hcv⟩ := hkv.cells (by intro h; rw [h] at hvl; have := HTS.out.2.2.2.1; simp at hvl; omega)
  have HVS := Lib.hid (And.intro hvl hvs)
  have hbw : Below w.heap.size w w4 := (below_alloc' HX.out.2 _).trans (hb5.mono (Below.size (below_alloc' HX.out.2 _)))
  have HS := Lib.hid (And.intro ((HX.out.1.below hb5).mono (PtK.below hb5)) (And.intro (hkv.base (Below.size (below_alloc' HX.out.2 _))) hbw))
  rw [hvl] at HS ⊢
  clear hkv hgk hcv hb5 hvs hvl hbw
  go_wp2_with fail
  go_loopw [3, 5] (fun ov iv wr => ∃ j : Nat, j ≤ ks.length ∧ iv = .int .i64 (j : Nat) ∧ OwnS (PtK W0 w wr) w wr ov (shL l :: (ks.take j).flatMap fun x => shapesL x.2) ∧ OwnV 44 w wr (.slice (some ⟨gk, 0, none⟩) ks.length ck) kvs ∧ Below w.heap.size w wr) (fun _ iv _ => ks.length - (intOf iv).toNat)
  case atStart => exact ⟨0, Nat.zero_le _, rfl, HS.out⟩
  case round =>
    obtain ⟨j, hj, rfl, hown, hkv, hb⟩ := hrel
    have HR := Lib.hid (And.intro hown (And.intro hkv hb))
    by_cases hlt : j < ks.length
    · have h3 : (j : Int) < (ks.length : Int) := by omega
      have h5 : (0 : Int) ≤ (j : Int) := by omega
      have HW := Lib.hid (show wrap64 ((j : Int) + 1) = ((j + 1 : Nat) : Int) by have := HTS.out; unfold wrap64; omega)
      have kj := hkv.cellsAt (by intro h; have := HVS.out.1; rw [h] at this; simp at this; omega) j (by rw [HVS.out.1]; exact hlt)
      have hr := HVS.out.2 j (by rw [HVS.out.1]; exact hlt) (by rw [List.length_map]; exact hlt)
      rw [List.getElem_map] at hr
      have HC := Lib.hid (HIH.out j hlt wr _ hb hr)
      obtain ⟨A9, c9, ev, zz⟩ := hr
      clear zz
      rw [ev] at HC kj
      have hlg : gk < wr.heap.size := World.block_lt_of_cell? wr _ kj
      have HT := Lib.hid (And.intro (flat_take ks j hlt) (show ((ks.take j).flatMap fun x => shapesL x.2).length + (shapesL ks[j].2).length ≤ (ks.flatMap fun x => shapesL x.2).length by
        rw [← List.length_append, ← flat_take ks j hlt]
        conv => rhs; rw [← List.take_append_drop (j + 1) ks, List.flatMap_append, List.length_append]
        omega))
      clear ev hown hkv hb
      generalize (ks[j]).2.length = nk at *
      go_wp2_with fail
      refine HC.out.mono ?_
      rintro e w5 ⟨v5, rfl, ho5, hb5⟩
      have HO := Lib.hid (And.intro ((HR.out.1.below hb5).mono (PtK.below hb5)) (And.intro (HR.out.2.1.below hb5) (And.intro (HR.out.2.2.trans (hb5.mono HR.out.2.2.size)) (ho5.mono (PtK.base HR.out.2.2.size)))))
      clear ho5 hb5
      go_wp2_with (at_builtin; refine wpList_append_S (Pt := PtK W0 w w5) rfl (.tmp 24) (.tmp 29) rfl w (shL l :: (ks.take j).flatMap fun x => shapesL x.2) (shapesL ks[j].2) ?_ ?_ ?_ ?_ ?_)
      · exact HO.out.1
      · exact HO.out.2.2.2.src (slicesK _ _ _)
      · exact HO.out.2.2.1.size
      · have := HTS.out; have := HT.out.2; simp only [List.length_cons]; omega
      intro v' w6 hown' hg
      have h6 := hown'.mono (PtK.grown HO.out.1 hg)
      have hk6 := HO.out.2.1.keepBlock fun b cur hb => hg.block b (kr_lt hb) fun e => by
        obtain ⟨_, c2, h2⟩ := HO.out.1.block b e.symm
        rw [hb] at h2
        injection h2 with h2
        injection h2 with _ h2 _
        revert h2; decide
      have hb6 := HO.out.1.grown HO.out.2.2.1 hg
      have HF := Lib.hid (And.intro h6 (And.intro hk6 hb6))
      clear hown' hg h6 hk6 hb6
      go_wp2_with fail
      go_roundw
      case rel => exact ⟨j + 1, by omega, (by first | rw [HW.out] | rfl | simp), by rw [HT.out.1]; exact HF.out.1, HF.out.2.1, HF.out.2.2⟩
      case measure => (first | (rw [intOf_of' HW.out, intOf_of' rfl]; omega) | (simp [intOf]; omega) | (simp [intOf] <;> omega))
    · obtain rfl : j = ks.length := by omega
      have h3 : ¬ (ks.length : Int) < (ks.length : Int) := by omega
      rw [List.take_length] at HR
      clear hown hkv hb
      go_wp2_with fail
      go_ret
      exact ⟨_, rfl, by rw [HTS.out.1]; exact HR.out.1, HR.out.2.2⟩
theorem rShapes_tn {k : Nat} {l : List En} (h : Tn k l) : ∀ (W0 w : World) (v : Value), RdE W0 v l → Below W0.heap.size W0 w → EtS k l → Calls Tryz.prog 78 #[v] w fun e' w' => ShsP W0 w (shapesL l) e' w' := by
  induction h with
  | one e h => intro W0 w v hv hb he; exact rShapes_one W0 w e v hv hb
  | node n pre ks hk hn ih => intro W0 w v hv hb he; exact rShapes_node W0 w k n pre ks v hk hn ih hv hb he
theorem rShapes_nil (W0 w : World) (v : Value) (hv : RdE w v []) : Calls Tryz.prog 78 #[v] w fun e' w' => ShsP W0 w (shapesL []) e' w' := by
  obtain ⟨A, c, rfl, _⟩ := hv
  simp only [List.length_nil]
  go_enter Tryz.func78, Tryz.ntmps78
  go_wp2_with fail
  go_ret
  exact ⟨_, rfl, OwnS.nil _ _ _, Below.refl _ _⟩
end Go.Proofs.YtdkomhmciihkiaaGreat
/-! RefV -/
namespace Go.Proofs.YtdkomhmciihkiaaGreat
open Go.RowKit
set_option linter.unusedVariables false
set_option linter.unusedSimpArgs false
set_option maxRecDepth 100000

set_option maxHeartbeats 2000000 in
theorem rSameShape (w : World) (x y : Value) (s : Sh) (hx : ShR w x s) (hy : ShR w y s) (h1 : s.pre.length ≤ 100) (h2 : s.pl.length ≤ 100000) :
    Calls Tryz.prog 135 #[x, y] w fun e w' => e = .returned (.bool true) ∧ Below w.heap.size w w' := by
  obtain ⟨u, pl, rfl, hu, hp⟩ := hx
  obtain ⟨u2, pl2, rfl, hu2, hp2⟩ := hy
  have HSM := Lib.hid (fun w' (hb : Below w.heap.size w w') => Same_any u u2 _ _ w' (hu.below hb) (hu2.below hb) (by unfold pti; rw [List.length_map]; omega))
  have HP := Lib.hid (And.intro hp hp2)
  obtain ⟨A1, c1, rfl, _⟩ := RdU.point hu
  obtain ⟨A2, c2, rfl, _⟩ := RdU.point hu2
  obtain ⟨A3, c3, rfl, hx3⟩ := hp
  obtain ⟨A4, c4, rfl, hx4⟩ := hp2
  rw [List.length_map] at *
  have HX := Lib.hid (And.intro hx3 (And.intro hx4 h2))
  have e1 : (s.lv != s.lv) = false := by simp
  have e2 : ((s.v : Int) != (s.v : Int)) = false := by simp
  have e3 : ((s.pl.length : Int) != (s.pl.length : Int)) = false := by simp
  have e4 : (s.dense != s.dense) = false := by simp
  clear hu hu2 hx3 hx4 h1 h2
  go_enter Tryz.func135, Tryz.ntmps135
  go_wp2_with fail
  refine (HSM.out _ (by repeat (first | exact Below.refl _ _ | (refine Below.drew ?_) | (refine below_drewN' ?_ _) | (refine below_alloc' ?_ _) | (refine Below.setCell ?_ (by first | exact Nat.le_refl _ | (simp; done) | (simp; omega)) _)))).mono ?_
  rintro e w1 ⟨rfl, nq, rfl⟩
  simp only [decide_true]
  go_wp2_with fail
  generalize hW1 : ((w.alloc (.cells #[.int .i64 s.lv, .slice A1 s.pre.length c1, .slice A3 s.pl.length c3, .bool s.dense, .int .u64 (s.v : Nat)] 222)).alloc (.cells #[.int .i64 s.lv, .slice A2 s.pre.length c2, .slice A4 s.pl.length c4, .bool s.dense, .int .u64 (s.v : Nat)] 222)).drewN nq = W1
  have b2 : W1.cell? ⟨w.heap.size, 2, none⟩ = some (.slice A3 s.pl.length c3) := by rw [← hW1]; simp [go_sem]
  have b3 : W1.cell? ⟨w.heap.size + 1, 2, none⟩ = some (.slice A4 s.pl.length c4) := by rw [← hW1]; simp [go_sem]
  have HB := Lib.hid (show Below w.heap.size w W1 from by rw [← hW1]; exact (by repeat (first | exact Below.refl _ _ | (refine Below.drew ?_) | (refine below_drewN' ?_ _) | (refine below_alloc' ?_ _) | (refine Below.setCell ?_ (by first | exact Nat.le_refl _ | (simp; done) | (simp; omega)) _))))
  have hl2 : w.heap.size < W1.heap.size := World.block_lt_of_cell? W1 _ b2
  have hl3 : w.heap.size + 1 < W1.heap.size := World.block_lt_of_cell? W1 _ b3
  clear hW1
  go_loopw [5] (fun iv wr => ∃ j n : Nat, j ≤ s.pl.length ∧ iv = .int .i64 (j : Nat) ∧ wr = W1.drewN n) (fun iv _ => s.pl.length - (intOf iv).toNat)
  case atStart => exact ⟨0, 0, Nat.zero_le _, rfl, rfl⟩
  case round =>
    obtain ⟨j, n, hj, rfl, hw⟩ := hrel
    subst hw
    by_cases hlt : j < s.pl.length
    · have h3 : (j : Int) < (s.pl.length : Int) := by omega
      have h5 : (0 : Int) ≤ (j : Int) := by omega
      have HW := Lib.hid (show wrap64 ((j : Int) + 1) = ((j + 1 : Nat) : Int) by have := HX.out.2.2; unfold wrap64; omega)
      obtain ⟨b5, o5, rfl, hc5⟩ := HX.out.1 (by first | omega | (rw [List.length_map]; omega))
      obtain ⟨b6, o6, rfl, hc6⟩ := HX.out.2.1 (by first | omega | (rw [List.length_map]; omega))
      have k5 := Below.keeps HB.out _ _ (hc5 j (by rw [List.length_map]; exact hlt))
      have k6 := Below.keeps HB.out _ _ (hc6 j (by rw [List.length_map]; exact hlt))
      rw [List.getElem_map] at k5 k6
      have hb5 : b5 < W1.heap.size := World.block_lt_of_cell? W1 _ k5
      have hb6 : b6 < W1.heap.size := World.block_lt_of_cell? W1 _ k6
      generalize s.pl[j] = z at *
      have e5 : ((z : Int) != (z : Int)) = false := by simp
      clear hc5 hc6
      go_wp2_with fail
      go_quiet (fail)
      go_wp2_with fail
      go_roundw
      case rel => exact ⟨j + 1, _, by omega, (by first | rw [HW.out] | rfl | simp), rfl⟩
      case measure => (first | (rw [intOf_of' HW.out, intOf_of' rfl]; omega) | (simp [intOf]; omega) | (simp [intOf] <;> omega))
    · have h3 : ¬ (j : Int) < (s.pl.length : Int) := by omega
      go_wp2_with fail
      go_ret
      exact ⟨rfl, below_drewN' HB.out _⟩
end Go.Proofs.YtdkomhmciihkiaaGreat
