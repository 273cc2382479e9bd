/-
  Texts that the proof of PackTrees leans on, part 4: contracts of functions, and plain laws.
-/
import Derived.Test.YtdkomhmciihkiaaGreatMPackTrees3
import Derived.ScopeJumps
import Derived.WalkMore
import Derived.OwnWalk
/-! NdD -/
namespace Go.Proofs.YtdkomhmciihkiaaGreat
open Go.RowKit
set_option linter.unusedVariables false
set_option linter.unusedSimpArgs false

theorem PtNew.set {w : World} {u x : Value} {p : List Nat} {g j : Nat} {cur : Array Value} {t : TypeId} {fr : Nat × Nat} (h : PtNew w u p) (hg : w.heap[g]? = some (.cells cur t fr)) (ht : t ≠ 22) : PtNew (w.setCell ⟨g, j, none⟩ x) u p :=
  h.keepBlock fun b c f hb => kr_far (by
    intro e; subst e
    rw [hb] at hg
    injection hg with hg
    injection hg with _ hg _
    exact ht hg.symm)
/-- what Entry of a leaf hands back -/
def EntP (W : World) (p : List Nat) (v : Nat) (e : Ending) (w' : World) : Prop := ∃ u, e = .returned (.tuple #[.agg #[u, .int .u64 (v : Nat)], .bool true]) ∧ PtNew w' u p ∧ Below W.heap.size W w'
set_option maxRecDepth 100000 in
set_option maxHeartbeats 2000000 in
theorem ent_leaf (w : World) (b k v : Nat) (lv : Int) (pr : List Nat) (s : Sm) (h : Hd w b lv pr v (.pointer none) s) (hpk : pr.length = k) (k1 : 1 ≤ k) (k16 : k ≤ 16) :
    Calls Tryz.prog 120 #[.pointer (some ⟨b, 0, none⟩)] w fun e w' => EntP w pr v e w' := by
  obtain ⟨u, y1, hu⟩ := h.c1
  have y2 := h.c2
  have y3 := h.c3
  have hbl := World.block_lt_of_cell? w _ y2
  have HCL := Lib.hid (fun w' (hb : Below w.heap.size w w') => clone_any pr u w' (hu.below hb) (by omega) (by omega))
  obtain ⟨A, c, rfl, _⟩ := RdU.point hu
  rw [hpk] at y1 HCL
  clear h hu hpk k1 k16
  go_enter Tryz.func120, Tryz.ntmps120
  go_wp2_with fail
  have hbn : ¬ w.heap.size = b := by omega
  refine wp_region_vals 10 [fun z9 _ => z9 = .pointer (some ⟨b, 0, none⟩),
    fun z9 _ => z9 = .pointer (some ⟨b, 0, none⟩),
    fun z9 _ => z9 = .pointer (some ⟨b, 1, none⟩),
    fun z9 _ => z9 = .slice A k c,
    fun v9 w9 => PtNew w9 v9 pr,
    fun z9 _ => z9 = .pointer (some ⟨b, 0, none⟩),
    fun z9 _ => z9 = .pointer (some ⟨b, 0, none⟩),
    fun z9 _ => z9 = .pointer (some ⟨b, 2, none⟩),
    fun z9 _ => z9 = .int .u64 (v : Nat),
    fun v9 w9 => ∃ u, v9 = .agg #[u, .int .u64 (v : Nat)] ∧ PtNew w9 u pr]
    (by kernel_rfl) (by kernel_rfl) (by kernel_rfl) (by kernel_rfl) ?_ ?_ ?_
  · intro V hV v w1 w2 h hb
    simp only [List.mem_cons, List.not_mem_nil, or_false] at hV
    rcases hV with rfl | rfl | rfl | rfl | rfl | rfl | rfl | rfl | rfl | rfl
    all_goals first | exact h | (first | exact PtNew.below h hb | (obtain ⟨u, h1, h2⟩ := h; exact ⟨u, h1, h2.below hb⟩))
  · intro iq oq hiq hoq
    match iq, hiq with
    | 0, _ =>
    obtain rfl := Option.some.inj hoq
    intro a1 w1 K hk hK
    have e0 : a1.tmps.getD 0 undef = .pointer (some ⟨b, 0, none⟩) := hk.same 0 (by simp)
    simp [Region.wanted, Oper.wp, Act.eval, go_sem, e0, y1, y2, hbl, hbn]
    exact hK _ _ (Below.refl _ _) rfl
    | 1, _ =>
    obtain rfl := Option.some.inj hoq
    intro a1 w1 K hk hK
    have d14 : a1.tmps.getD 14 undef = .pointer (some ⟨b, 0, none⟩) := hk.deps ⟨0, .data⟩ (by simp) rfl _ _ rfl rfl
    simp [Region.wanted, Oper.wp, Act.eval, go_sem, d14, y1, y2, hbl, hbn]
    exact hK _ _ (Below.refl _ _) rfl
    | 2, _ =>
    obtain rfl := Option.some.inj hoq
    intro a1 w1 K hk hK
    have d15 : a1.tmps.getD 15 undef = .pointer (some ⟨b, 0, none⟩) := hk.deps ⟨1, .data⟩ (by simp) rfl _ _ rfl rfl
    simp [Region.wanted, Oper.wp, Act.eval, go_sem, d15, y1, y2, hbl, hbn]
    exact hK _ _ (Below.refl _ _) rfl
    | 3, _ =>
    obtain rfl := Option.some.inj hoq
    intro a1 w1 K hk hK
    have d16 : a1.tmps.getD 16 undef = .pointer (some ⟨b, 1, none⟩) := hk.deps ⟨2, .data⟩ (by simp) rfl _ _ rfl rfl
    have c0 : w1.cell? ⟨b, 1, none⟩ = some (.slice A k c) := Below.keeps hk.ext _ _ (by simp [go_sem, y1, y2, hbl, hbn])
    have c1 : w1.cell? ⟨b, 2, none⟩ = some (.int .u64 (v : Nat)) := Below.keeps hk.ext _ _ (by simp [go_sem, y1, y2, hbl, hbn])
    simp [Region.wanted, Oper.wp, Act.eval, go_sem, d16, c0, c1, y1, y2, hbl, hbn]
    exact hK _ _ (Below.refl _ _) rfl
    | 4, _ =>
    obtain rfl := Option.some.inj hoq
    intro a1 w1 K hk hK
    have d17 : a1.tmps.getD 17 undef = .slice A k c := hk.deps ⟨3, .data⟩ (by simp) rfl _ _ rfl rfl
    simp [Region.wanted, Oper.wp, Act.eval, go_sem, d17, y1, y2, hbl, hbn]
    refine (HCL.out _ (below_trans (by repeat (first | exact Below.refl _ _ | (refine Below.drew ?_) | (refine below_drewN' ?_ _) | (refine below_alloc' ?_ _) | (refine Below.setCell ?_ (by first | exact Nat.le_refl _ | (simp; done) | (simp; omega)) _))) hk.ext)).mono ?_
    rintro e w9 ⟨u9, rfl, h9, hb9⟩
    exact hK _ _ hb9 h9
    | 5, _ =>
    obtain rfl := Option.some.inj hoq
    intro a1 w1 K hk hK
    have e0 : a1.tmps.getD 0 undef = .pointer (some ⟨b, 0, none⟩) := hk.same 0 (by simp)
    simp [Region.wanted, Oper.wp, Act.eval, go_sem, e0, y1, y2, hbl, hbn]
    exact hK _ _ (Below.refl _ _) rfl
    | 6, _ =>
    obtain rfl := Option.some.inj hoq
    intro a1 w1 K hk hK
    have d19 : a1.tmps.getD 19 undef = .pointer (some ⟨b, 0, none⟩) := hk.deps ⟨5, .data⟩ (by simp) rfl _ _ rfl rfl
    simp [Region.wanted, Oper.wp, Act.eval, go_sem, d19, y1, y2, hbl, hbn]
    exact hK _ _ (Below.refl _ _) rfl
    | 7, _ =>
    obtain rfl := Option.some.inj hoq
    intro a1 w1 K hk hK
    have d20 : a1.tmps.getD 20 undef = .pointer (some ⟨b, 0, none⟩) := hk.deps ⟨6, .data⟩ (by simp) rfl _ _ rfl rfl
    simp [Region.wanted, Oper.wp, Act.eval, go_sem, d20, y1, y2, hbl, hbn]
    exact hK _ _ (Below.refl _ _) rfl
    | 8, _ =>
    obtain rfl := Option.some.inj hoq
    intro a1 w1 K hk hK
    have d21 : a1.tmps.getD 21 undef = .pointer (some ⟨b, 2, none⟩) := hk.deps ⟨7, .data⟩ (by simp) rfl _ _ rfl rfl
    have c0 : w1.cell? ⟨b, 1, none⟩ = some (.slice A k c) := Below.keeps hk.ext _ _ (by simp [go_sem, y1, y2, hbl, hbn])
    have c1 : w1.cell? ⟨b, 2, none⟩ = some (.int .u64 (v : Nat)) := Below.keeps hk.ext _ _ (by simp [go_sem, y1, y2, hbl, hbn])
    simp [Region.wanted, Oper.wp, Act.eval, go_sem, d21, c0, c1, y1, y2, hbl, hbn]
    exact hK _ _ (Below.refl _ _) rfl
    | 9, _ =>
    obtain rfl := Option.some.inj hoq
    intro a1 w1 K hk hK
    have D18 : PtNew w1 (a1.tmps.getD 18 undef) pr := hk.deps ⟨4, .data⟩ (by simp) rfl _ _ rfl rfl
    have d22 : a1.tmps.getD 22 undef = .int .u64 (v : Nat) := hk.deps ⟨8, .data⟩ (by simp) rfl _ _ rfl rfl
    have d22x : a1.tmps[22]?.getD undef = .int .u64 (v : Nat) := by rw [← d22]; simp
    obtain ⟨A9, c9, e18, _⟩ := RdU.point D18.rd
    have e18x : a1.tmps[18]?.getD undef = .slice A9 pr.length c9 := by rw [← e18]; simp
    rw [e18] at D18
    have d22x : a1.tmps[22]?.getD undef = .int .u64 (v : Nat) := by rw [← d22]; simp
    simp [Region.wanted, Oper.wp, Act.eval, go_sem, d22, d22x, e18, e18x]
    exact hK _ _ (Below.refl _ _) ⟨_, rfl, D18⟩
  · intro vs w3 hl hb3 hv
    match vs, hl with
    | [v0, v1, v2, v3, v4, v5, v6, v7, v8, v9], _ =>
    obtain rfl : v0 = .pointer (some ⟨b, 0, none⟩) := hv 0 (by omega)
    obtain rfl : v1 = .pointer (some ⟨b, 0, none⟩) := hv 1 (by omega)
    obtain rfl : v2 = .pointer (some ⟨b, 1, none⟩) := hv 2 (by omega)
    obtain rfl : v3 = .slice A k c := hv 3 (by omega)
    have q4 : PtNew w3 v4 pr := hv 4 (by omega)
    obtain rfl : v5 = .pointer (some ⟨b, 0, none⟩) := hv 5 (by omega)
    obtain rfl : v6 = .pointer (some ⟨b, 0, none⟩) := hv 6 (by omega)
    obtain rfl : v7 = .pointer (some ⟨b, 2, none⟩) := hv 7 (by omega)
    obtain rfl : v8 = .int .u64 (v : Nat) := hv 8 (by omega)
    have q9 : ∃ u, v9 = .agg #[u, .int .u64 (v : Nat)] ∧ PtNew w3 u pr := hv 9 (by omega)
    clear hv
    simp only [putAll, List.take_succ_cons, List.take_zero, List.drop_succ_cons, List.drop_zero, Act.put, List.setIfInBounds_toArray, List.set_cons_succ, List.set_cons_zero]
    clear q4
    obtain ⟨u, rfl, hpt⟩ := q9
    have hb4 : Below w.heap.size w w3 := below_trans (by repeat (first | exact Below.refl _ _ | (refine Below.drew ?_) | (refine below_drewN' ?_ _) | (refine below_alloc' ?_ _) | (refine Below.setCell ?_ (by first | exact Nat.le_refl _ | (simp; done) | (simp; omega)) _))) hb3
    have hblk : w3.heap[w.heap.size]? = some (.cells #[.slice none 0 0, .int .u64 0] 35 (0, 0)) := (hb3.block _ (by simp)).trans (by show (w.heap.push _)[w.heap.size]? = _; simp)
    have k0 : w3.cell? ⟨w.heap.size, 0, none⟩ = some (.slice none 0 0) := by simp only [World.cell?, hblk]; simp
    have k1 : w3.cell? ⟨w.heap.size, 1, none⟩ = some (.int .u64 0) := by simp only [World.cell?, hblk]; simp
    have f0 : w3.frozen? ⟨w.heap.size, 0, none⟩ = false := by simp [World.frozen?, hblk]
    have f1 : w3.frozen? ⟨w.heap.size, 1, none⟩ = false := by simp [World.frozen?, hblk]
    have hlt := kr_lt hblk
    have hset := (hpt.set (j := 0) (x := u) hblk (by decide)).set (j := 1) (x := .int .u64 (v : Nat)) (kr_set hblk) (by decide)
    obtain ⟨A9, c9, rfl, _⟩ := RdU.point hpt.rd
    have HF := Lib.hid (And.intro hset ((hb4.setCell (p := ⟨w.heap.size, 0, none⟩) (Nat.le_refl _) (.slice A9 pr.length c9)).setCell (p := ⟨w.heap.size, 1, none⟩) (Nat.le_refl _) (.int .u64 (v : Nat))))
    clear hpt hset hb3 hb4 hblk
    go_wp2_with fail
    refine bodyPost_ret (v := .tuple #[.agg #[.slice A9 pr.length c9, .int .u64 (v : Nat)], .bool true]) (by simp [results, Tryz.results120, go_sem, k0, k1]) rfl ⟨_, rfl, HF.out⟩
set_option maxRecDepth 100000 in
theorem ent_node (w : World) (b s : Nat) (y3 : w.cell? ⟨b, 3, none⟩ = some (.pointer (some ⟨s, 0, none⟩))) :
    Calls Tryz.prog 120 #[.pointer (some ⟨b, 0, none⟩)] w fun e w' => e = .returned (.tuple #[.agg #[.slice none 0 0, .int .u64 0], .bool false]) ∧ Below w.heap.size w w' := by
  have hbl := World.block_lt_of_cell? w _ y3
  go_enter Tryz.func120, Tryz.ntmps120
  go_wp2_with fail
  refine bodyPost_ret (v := .tuple #[.agg #[.slice none 0 0, .int .u64 0], .bool false]) (by simp [results, Tryz.results120, go_sem]) rfl ⟨rfl, (by repeat (first | exact Below.refl _ _ | (refine Below.drew ?_) | (refine below_drewN' ?_ _) | (refine below_alloc' ?_ _) | (refine Below.setCell ?_ (by first | exact Nat.le_refl _ | (simp; done) | (simp; omega)) _)))⟩
theorem OwnV.keepBlock {t : TypeId} {W w w' : World} {v : Value} {l : List Value} (h : OwnV t W w v l) (hk : ∀ (b : Nat) (cur : Array Value), w.heap[b]? = some (Obj.cells cur t (0, 0)) → w'.heap[b]? = w.heap[b]?) : OwnV t W w' v l := by
  obtain ⟨h1, h2⟩ := h
  refine ⟨h1, ?_⟩
  rcases h2 with h2 | ⟨g, cap, cur, q1, q2, q3, q4⟩
  · exact .inl h2
  · exact .inr ⟨g, cap, cur, q1, q2, (hk g cur q3).trans q3, q4⟩
theorem OwnV.set {T : TypeId} {W w : World} {u x : Value} {l : List Value} {g j : Nat} {cur : Array Value} {t : TypeId} {fr : Nat × Nat} (h : OwnV T W w u l) (hg : w.heap[g]? = some (.cells cur t fr)) (ht : t ≠ T) : OwnV T W (w.setCell ⟨g, j, none⟩ x) u l :=
  h.keepBlock fun b c hb => kr_far (by
    intro e; subst e
    rw [hb] at hg
    injection hg with hg
    injection hg with _ hg _
    exact ht hg.symm)
/-- a shape is handed back -/
structure ShV (W w : World) (s : Sh) (x : Value) : Prop where
  ex : ∃ u p9, x = .agg #[.int .i64 s.lv, u, p9, .bool s.dense, .int .u64 (s.v : Nat)] ∧ PtNew w u s.pre ∧ OwnV 3 W w p9 (s.pl.map fun (x : Nat) => Value.int .i64 (x : Nat))
def ShP (W : World) (s : Sh) (e : Ending) (w' : World) : Prop := ∃ x, e = .returned x ∧ ShV W w' s x ∧ Below W.heap.size W w'
set_option maxRecDepth 100000 in
set_option maxHeartbeats 4000000 in
theorem shp_gen (w : World) (b k v : Nat) (lv : Int) (pr pls : List Nat) (dn : Bool) (q : Option Addr) (s : Sm) (h : Hd w b lv pr v (.pointer q) s) (hpk : pr.length = k) (k1 : 1 ≤ k) (k16 : k ≤ 16)
    (HPL : Hid (∀ w', Below w.heap.size w w' → Calls Tryz.prog 193 #[.pointer q] w' fun e w'' => ∃ v, e = .returned v ∧ OwnV 3 w' w'' v (pls.map fun (x : Nat) => Value.int .i64 (x : Nat)) ∧ Below w'.heap.size w' w''))
    (HDN : Hid (∀ w', Below w.heap.size w w' → Calls Tryz.prog 194 #[.pointer q] w' fun e w'' => e = .returned (.bool dn) ∧ Below w'.heap.size w' w'')) :
    Calls Tryz.prog 136 #[.pointer (some ⟨b, 0, none⟩)] w fun e w' => ShP w ⟨lv, pr, pls, dn, v⟩ e w' := by
  obtain ⟨u, y1, hu⟩ := h.c1
  have y0 := h.c0
  have y2 := h.c2
  have y3 := h.c3
  have hbl := World.block_lt_of_cell? w _ y2
  have HCL := Lib.hid (fun w' (hb : Below w.heap.size w w') => clone_any pr u w' (hu.below hb) (by omega) (by omega))
  obtain ⟨A, c, rfl, _⟩ := RdU.point hu
  rw [hpk] at y1 HCL
  have HPK := Lib.hid hpk
  clear h hu hpk k1 k16
  go_enter Tryz.func136, Tryz.ntmps136
  go_wp2_with fail
  have hbn : ¬ w.heap.size = b := by omega
  refine wp_region_vals 24 [fun z9 _ => z9 = .pointer (some ⟨b, 0, none⟩),
    fun z9 _ => z9 = .pointer (some ⟨b, 0, none⟩),
    fun z9 _ => z9 = .pointer (some ⟨b, 0, none⟩),
    fun z9 _ => z9 = .int .i64 lv,
    fun z9 _ => z9 = .pointer (some ⟨b, 0, none⟩),
    fun z9 _ => z9 = .pointer (some ⟨b, 0, none⟩),
    fun z9 _ => z9 = .pointer (some ⟨b, 1, none⟩),
    fun z9 _ => z9 = .slice A k c,
    fun v9 w9 => PtNew w9 v9 pr,
    fun z9 _ => z9 = .pointer (some ⟨b, 0, none⟩),
    fun z9 _ => z9 = .pointer (some ⟨b, 0, none⟩),
    fun z9 _ => z9 = .pointer (some ⟨b, 3, none⟩),
    fun z9 _ => z9 = .pointer q,
    fun v9 w9 => OwnV 3 w w9 v9 (pls.map fun (x : Nat) => Value.int .i64 (x : Nat)),
    fun z9 _ => z9 = .pointer (some ⟨b, 0, none⟩),
    fun z9 _ => z9 = .pointer (some ⟨b, 0, none⟩),
    fun z9 _ => z9 = .pointer (some ⟨b, 3, none⟩),
    fun z9 _ => z9 = .pointer q,
    fun z9 _ => z9 = .bool dn,
    fun z9 _ => z9 = .pointer (some ⟨b, 0, none⟩),
    fun z9 _ => z9 = .pointer (some ⟨b, 0, none⟩),
    fun z9 _ => z9 = .pointer (some ⟨b, 2, none⟩),
    fun z9 _ => z9 = .int .u64 (v : Nat),
    fun v9 w9 => ∃ u p9, v9 = .agg #[.int .i64 lv, u, p9, .bool dn, .int .u64 (v : Nat)] ∧ PtNew w9 u pr ∧ OwnV 3 w w9 p9 (pls.map fun (x : Nat) => Value.int .i64 (x : Nat))]
    (by kernel_rfl) (by kernel_rfl) (by kernel_rfl) (by kernel_rfl) ?_ ?_ ?_
  · intro V hV v w1 w2 h hb
    simp only [List.mem_cons, List.not_mem_nil, or_false] at hV
    rcases hV with rfl | rfl | rfl | rfl | rfl | rfl | rfl | rfl | rfl | rfl | rfl | rfl | rfl | rfl | rfl | rfl | rfl | rfl | rfl | rfl | rfl | rfl | rfl | rfl
    all_goals first | exact h | (first | exact PtNew.below h hb | exact OwnV.below h hb | (obtain ⟨u, p9, h1, h2, h3⟩ := h; exact ⟨u, p9, h1, h2.below hb, h3.below hb⟩))
  · intro iq oq hiq hoq
    match iq, hiq with
    | 0, _ =>
    obtain rfl := Option.some.inj hoq
    intro a1 w1 K hk hK
    have e0 : a1.tmps.getD 0 undef = .pointer (some ⟨b, 0, none⟩) := hk.same 0 (by simp)
    simp [Region.wanted, Oper.wp, Act.eval, go_sem, e0, y0, y1, y2, y3, hbl, hbn]
    exact hK _ _ (Below.refl _ _) rfl
    | 1, _ =>
    obtain rfl := Option.some.inj hoq
    intro a1 w1 K hk hK
    have d6 : a1.tmps.getD 6 undef = .pointer (some ⟨b, 0, none⟩) := hk.deps ⟨0, .data⟩ (by simp) rfl _ _ rfl rfl
    simp [Region.wanted, Oper.wp, Act.eval, go_sem, d6, y0, y1, y2, y3, hbl, hbn]
    exact hK _ _ (Below.refl _ _) rfl
    | 2, _ =>
    obtain rfl := Option.some.inj hoq
    intro a1 w1 K hk hK
    have d7 : a1.tmps.getD 7 undef = .pointer (some ⟨b, 0, none⟩) := hk.deps ⟨1, .data⟩ (by simp) rfl _ _ rfl rfl
    simp [Region.wanted, Oper.wp, Act.eval, go_sem, d7, y0, y1, y2, y3, hbl, hbn]
    exact hK _ _ (Below.refl _ _) rfl
    | 3, _ =>
    obtain rfl := Option.some.inj hoq
    intro a1 w1 K hk hK
    have d8 : a1.tmps.getD 8 undef = .pointer (some ⟨b, 0, none⟩) := hk.deps ⟨2, .data⟩ (by simp) rfl _ _ rfl rfl
    have c0 : w1.cell? ⟨b, 0, none⟩ = some (.int .i64 lv) := Below.keeps hk.ext _ _ (by simp [go_sem, y0, y1, y2, y3, hbl, hbn])
    have c1 : w1.cell? ⟨b, 1, none⟩ = some (.slice A k c) := Below.keeps hk.ext _ _ (by simp [go_sem, y0, y1, y2, y3, hbl, hbn])
    have c2 : w1.cell? ⟨b, 2, none⟩ = some (.int .u64 (v : Nat)) := Below.keeps hk.ext _ _ (by simp [go_sem, y0, y1, y2, y3, hbl, hbn])
    have c3 : w1.cell? ⟨b, 3, none⟩ = some (.pointer q) := Below.keeps hk.ext _ _ (by simp [go_sem, y0, y1, y2, y3, hbl, hbn])
    simp [Region.wanted, Oper.wp, Act.eval, go_sem, d8, c0, c1, c2, c3, y0, y1, y2, y3, hbl, hbn]
    exact hK _ _ (Below.refl _ _) rfl
    | 4, _ =>
    obtain rfl := Option.some.inj hoq
    intro a1 w1 K hk hK
    have e0 : a1.tmps.getD 0 undef = .pointer (some ⟨b, 0, none⟩) := hk.same 0 (by simp)
    simp [Region.wanted, Oper.wp, Act.eval, go_sem, e0, y0, y1, y2, y3, hbl, hbn]
    exact hK _ _ (Below.refl _ _) rfl
    | 5, _ =>
    obtain rfl := Option.some.inj hoq
    intro a1 w1 K hk hK
    have d10 : a1.tmps.getD 10 undef = .pointer (some ⟨b, 0, none⟩) := hk.deps ⟨4, .data⟩ (by simp) rfl _ _ rfl rfl
    simp [Region.wanted, Oper.wp, Act.eval, go_sem, d10, y0, y1, y2, y3, hbl, hbn]
    exact hK _ _ (Below.refl _ _) rfl
    | 6, _ =>
    obtain rfl := Option.some.inj hoq
    intro a1 w1 K hk hK
    have d11 : a1.tmps.getD 11 undef = .pointer (some ⟨b, 0, none⟩) := hk.deps ⟨5, .data⟩ (by simp) rfl _ _ rfl rfl
    simp [Region.wanted, Oper.wp, Act.eval, go_sem, d11, y0, y1, y2, y3, hbl, hbn]
    exact hK _ _ (Below.refl _ _) rfl
    | 7, _ =>
    obtain rfl := Option.some.inj hoq
    intro a1 w1 K hk hK
    have d12 : a1.tmps.getD 12 undef = .pointer (some ⟨b, 1, none⟩) := hk.deps ⟨6, .data⟩ (by simp) rfl _ _ rfl rfl
    have c0 : w1.cell? ⟨b, 0, none⟩ = some (.int .i64 lv) := Below.keeps hk.ext _ _ (by simp [go_sem, y0, y1, y2, y3, hbl, hbn])
    have c1 : w1.cell? ⟨b, 1, none⟩ = some (.slice A k c) := Below.keeps hk.ext _ _ (by simp [go_sem, y0, y1, y2, y3, hbl, hbn])
    have c2 : w1.cell? ⟨b, 2, none⟩ = some (.int .u64 (v : Nat)) := Below.keeps hk.ext _ _ (by simp [go_sem, y0, y1, y2, y3, hbl, hbn])
    have c3 : w1.cell? ⟨b, 3, none⟩ = some (.pointer q) := Below.keeps hk.ext _ _ (by simp [go_sem, y0, y1, y2, y3, hbl, hbn])
    simp [Region.wanted, Oper.wp, Act.eval, go_sem, d12, c0, c1, c2, c3, y0, y1, y2, y3, hbl, hbn]
    exact hK _ _ (Below.refl _ _) rfl
    | 8, _ =>
    obtain rfl := Option.some.inj hoq
    intro a1 w1 K hk hK
    have d13 : a1.tmps.getD 13 undef = .slice A k c := hk.deps ⟨7, .data⟩ (by simp) rfl _ _ rfl rfl
    simp [Region.wanted, Oper.wp, Act.eval, go_sem, d13, y0, y1, y2, y3, hbl, hbn]
    refine (HCL.out _ (below_trans (by repeat (first | exact Below.refl _ _ | (refine Below.drew ?_) | (refine below_drewN' ?_ _) | (refine below_alloc' ?_ _) | (refine Below.setCell ?_ (by first | exact Nat.le_refl _ | (simp; done) | (simp; omega)) _))) hk.ext)).mono ?_
    rintro e w9 ⟨u9, rfl, h9, hb9⟩
    exact hK _ _ hb9 h9
    | 9, _ =>
    obtain rfl := Option.some.inj hoq
    intro a1 w1 K hk hK
    have e0 : a1.tmps.getD 0 undef = .pointer (some ⟨b, 0, none⟩) := hk.same 0 (by simp)
    simp [Region.wanted, Oper.wp, Act.eval, go_sem, e0, y0, y1, y2, y3, hbl, hbn]
    exact hK _ _ (Below.refl _ _) rfl
    | 10, _ =>
    obtain rfl := Option.some.inj hoq
    intro a1 w1 K hk hK
    have d15 : a1.tmps.getD 15 undef = .pointer (some ⟨b, 0, none⟩) := hk.deps ⟨9, .data⟩ (by simp) rfl _ _ rfl rfl
    simp [Region.wanted, Oper.wp, Act.eval, go_sem, d15, y0, y1, y2, y3, hbl, hbn]
    exact hK _ _ (Below.refl _ _) rfl
    | 11, _ =>
    obtain rfl := Option.some.inj hoq
    intro a1 w1 K hk hK
    have d16 : a1.tmps.getD 16 undef = .pointer (some ⟨b, 0, none⟩) := hk.deps ⟨10, .data⟩ (by simp) rfl _ _ rfl rfl
    simp [Region.wanted, Oper.wp, Act.eval, go_sem, d16, y0, y1, y2, y3, hbl, hbn]
    exact hK _ _ (Below.refl _ _) rfl
    | 12, _ =>
    obtain rfl := Option.some.inj hoq
    intro a1 w1 K hk hK
    have d17 : a1.tmps.getD 17 undef = .pointer (some ⟨b, 3, none⟩) := hk.deps ⟨11, .data⟩ (by simp) rfl _ _ rfl rfl
    have c0 : w1.cell? ⟨b, 0, none⟩ = some (.int .i64 lv) := Below.keeps hk.ext _ _ (by simp [go_sem, y0, y1, y2, y3, hbl, hbn])
    have c1 : w1.cell? ⟨b, 1, none⟩ = some (.slice A k c) := Below.keeps hk.ext _ _ (by simp [go_sem, y0, y1, y2, y3, hbl, hbn])
    have c2 : w1.cell? ⟨b, 2, none⟩ = some (.int .u64 (v : Nat)) := Below.keeps hk.ext _ _ (by simp [go_sem, y0, y1, y2, y3, hbl, hbn])
    have c3 : w1.cell? ⟨b, 3, none⟩ = some (.pointer q) := Below.keeps hk.ext _ _ (by simp [go_sem, y0, y1, y2, y3, hbl, hbn])
    simp [Region.wanted, Oper.wp, Act.eval, go_sem, d17, c0, c1, c2, c3, y0, y1, y2, y3, hbl, hbn]
    exact hK _ _ (Below.refl _ _) rfl
    | 13, _ =>
    obtain rfl := Option.some.inj hoq
    intro a1 w1 K hk hK
    have d18 : a1.tmps.getD 18 undef = .pointer q := hk.deps ⟨12, .data⟩ (by simp) rfl _ _ rfl rfl
    simp [Region.wanted, Oper.wp, Act.eval, go_sem, d18, y0, y1, y2, y3, hbl, hbn]
    refine (HPL.out _ (below_trans (by repeat (first | exact Below.refl _ _ | (refine Below.drew ?_) | (refine below_drewN' ?_ _) | (refine below_alloc' ?_ _) | (refine Below.setCell ?_ (by first | exact Nat.le_refl _ | (simp; done) | (simp; omega)) _))) hk.ext)).mono ?_
    rintro e w9 ⟨v9, rfl, h9, hb9⟩
    exact hK _ _ hb9 (h9.base (Nat.le_trans (by simp) (below_trans (by repeat (first | exact Below.refl _ _ | (refine Below.drew ?_) | (refine below_drewN' ?_ _) | (refine below_alloc' ?_ _) | (refine Below.setCell ?_ (by first | exact Nat.le_refl _ | (simp; done) | (simp; omega)) _))) hk.ext : Below w.heap.size w w1).size))
    | 14, _ =>
    obtain rfl := Option.some.inj hoq
    intro a1 w1 K hk hK
    have e0 : a1.tmps.getD 0 undef = .pointer (some ⟨b, 0, none⟩) := hk.same 0 (by simp)
    simp [Region.wanted, Oper.wp, Act.eval, go_sem, e0, y0, y1, y2, y3, hbl, hbn]
    exact hK _ _ (Below.refl _ _) rfl
    | 15, _ =>
    obtain rfl := Option.some.inj hoq
    intro a1 w1 K hk hK
    have d20 : a1.tmps.getD 20 undef = .pointer (some ⟨b, 0, none⟩) := hk.deps ⟨14, .data⟩ (by simp) rfl _ _ rfl rfl
    simp [Region.wanted, Oper.wp, Act.eval, go_sem, d20, y0, y1, y2, y3, hbl, hbn]
    exact hK _ _ (Below.refl _ _) rfl
    | 16, _ =>
    obtain rfl := Option.some.inj hoq
    intro a1 w1 K hk hK
    have d21 : a1.tmps.getD 21 undef = .pointer (some ⟨b, 0, none⟩) := hk.deps ⟨15, .data⟩ (by simp) rfl _ _ rfl rfl
    simp [Region.wanted, Oper.wp, Act.eval, go_sem, d21, y0, y1, y2, y3, hbl, hbn]
    exact hK _ _ (Below.refl _ _) rfl
    | 17, _ =>
    obtain rfl := Option.some.inj hoq
    intro a1 w1 K hk hK
    have d22 : a1.tmps.getD 22 undef = .pointer (some ⟨b, 3, none⟩) := hk.deps ⟨16, .data⟩ (by simp) rfl _ _ rfl rfl
    have c0 : w1.cell? ⟨b, 0, none⟩ = some (.int .i64 lv) := Below.keeps hk.ext _ _ (by simp [go_sem, y0, y1, y2, y3, hbl, hbn])
    have c1 : w1.cell? ⟨b, 1, none⟩ = some (.slice A k c) := Below.keeps hk.ext _ _ (by simp [go_sem, y0, y1, y2, y3, hbl, hbn])
    have c2 : w1.cell? ⟨b, 2, none⟩ = some (.int .u64 (v : Nat)) := Below.keeps hk.ext _ _ (by simp [go_sem, y0, y1, y2, y3, hbl, hbn])
    have c3 : w1.cell? ⟨b, 3, none⟩ = some (.pointer q) := Below.keeps hk.ext _ _ (by simp [go_sem, y0, y1, y2, y3, hbl, hbn])
    simp [Region.wanted, Oper.wp, Act.eval, go_sem, d22, c0, c1, c2, c3, y0, y1, y2, y3, hbl, hbn]
    exact hK _ _ (Below.refl _ _) rfl
    | 18, _ =>
    obtain rfl := Option.some.inj hoq
    intro a1 w1 K hk hK
    have d23 : a1.tmps.getD 23 undef = .pointer q := hk.deps ⟨17, .data⟩ (by simp) rfl _ _ rfl rfl
    simp [Region.wanted, Oper.wp, Act.eval, go_sem, d23, y0, y1, y2, y3, hbl, hbn]
    refine (HDN.out _ (below_trans (by repeat (first | exact Below.refl _ _ | (refine Below.drew ?_) | (refine below_drewN' ?_ _) | (refine below_alloc' ?_ _) | (refine Below.setCell ?_ (by first | exact Nat.le_refl _ | (simp; done) | (simp; omega)) _))) hk.ext)).mono ?_
    rintro e w9 ⟨rfl, hb9⟩
    exact hK _ _ hb9 rfl
    | 19, _ =>
    obtain rfl := Option.some.inj hoq
    intro a1 w1 K hk hK
    have e0 : a1.tmps.getD 0 undef = .pointer (some ⟨b, 0, none⟩) := hk.same 0 (by simp)
    simp [Region.wanted, Oper.wp, Act.eval, go_sem, e0, y0, y1, y2, y3, hbl, hbn]
    exact hK _ _ (Below.refl _ _) rfl
    | 20, _ =>
    obtain rfl := Option.some.inj hoq
    intro a1 w1 K hk hK
    have d25 : a1.tmps.getD 25 undef = .pointer (some ⟨b, 0, none⟩) := hk.deps ⟨19, .data⟩ (by simp) rfl _ _ rfl rfl
    simp [Region.wanted, Oper.wp, Act.eval, go_sem, d25, y0, y1, y2, y3, hbl, hbn]
    exact hK _ _ (Below.refl _ _) rfl
    | 21, _ =>
    obtain rfl := Option.some.inj hoq
    intro a1 w1 K hk hK
    have d26 : a1.tmps.getD 26 undef = .pointer (some ⟨b, 0, none⟩) := hk.deps ⟨20, .data⟩ (by simp) rfl _ _ rfl rfl
    simp [Region.wanted, Oper.wp, Act.eval, go_sem, d26, y0, y1, y2, y3, hbl, hbn]
    exact hK _ _ (Below.refl _ _) rfl
    | 22, _ =>
    obtain rfl := Option.some.inj hoq
    intro a1 w1 K hk hK
    have d27 : a1.tmps.getD 27 undef = .pointer (some ⟨b, 2, none⟩) := hk.deps ⟨21, .data⟩ (by simp) rfl _ _ rfl rfl
    have c0 : w1.cell? ⟨b, 0, none⟩ = some (.int .i64 lv) := Below.keeps hk.ext _ _ (by simp [go_sem, y0, y1, y2, y3, hbl, hbn])
    have c1 : w1.cell? ⟨b, 1, none⟩ = some (.slice A k c) := Below.keeps hk.ext _ _ (by simp [go_sem, y0, y1, y2, y3, hbl, hbn])
    have c2 : w1.cell? ⟨b, 2, none⟩ = some (.int .u64 (v : Nat)) := Below.keeps hk.ext _ _ (by simp [go_sem, y0, y1, y2, y3, hbl, hbn])
    have c3 : w1.cell? ⟨b, 3, none⟩ = some (.pointer q) := Below.keeps hk.ext _ _ (by simp [go_sem, y0, y1, y2, y3, hbl, hbn])
    simp [Region.wanted, Oper.wp, Act.eval, go_sem, d27, c0, c1, c2, c3, y0, y1, y2, y3, hbl, hbn]
    exact hK _ _ (Below.refl _ _) rfl
    | 23, _ =>
    obtain rfl := Option.some.inj hoq
    intro a1 w1 K hk hK
    have d9 : a1.tmps.getD 9 undef = .int .i64 lv := hk.deps ⟨3, .data⟩ (by simp) rfl _ _ rfl rfl
    have d9x : a1.tmps[9]?.getD undef = .int .i64 lv := by rw [← d9]; simp
    have D14 : PtNew w1 (a1.tmps.getD 14 undef) pr := hk.deps ⟨8, .data⟩ (by simp) rfl _ _ rfl rfl
    have D19 : OwnV 3 w w1 (a1.tmps.getD 19 undef) (pls.map fun (x : Nat) => Value.int .i64 (x : Nat)) := hk.deps ⟨13, .data⟩ (by simp) rfl _ _ rfl rfl
    have d24 : a1.tmps.getD 24 undef = .bool dn := hk.deps ⟨18, .data⟩ (by simp) rfl _ _ rfl rfl
    have d24x : a1.tmps[24]?.getD undef = .bool dn := by rw [← d24]; simp
    have d28 : a1.tmps.getD 28 undef = .int .u64 (v : Nat) := hk.deps ⟨22, .data⟩ (by simp) rfl _ _ rfl rfl
    have d28x : a1.tmps[28]?.getD undef = .int .u64 (v : Nat) := by rw [← d28]; simp
    obtain ⟨A9, c9, e14, _⟩ := RdU.point D14.rd
    have e14x : a1.tmps[14]?.getD undef = .slice A9 pr.length c9 := by rw [← e14]; simp
    rw [e14] at D14
    obtain ⟨A8, c8, e19⟩ := D19.shape
    have e19x : a1.tmps[19]?.getD undef = .slice A8 (pls.map fun (x : Nat) => Value.int .i64 (x : Nat)).length c8 := by rw [← e19]; simp
    rw [e19] at D19
    have d9x : a1.tmps[9]?.getD undef = .int .i64 lv := by rw [← d9]; simp
    have d24x : a1.tmps[24]?.getD undef = .bool dn := by rw [← d24]; simp
    have d28x : a1.tmps[28]?.getD undef = .int .u64 (v : Nat) := by rw [← d28]; simp
    rw [List.length_map] at e19 e19x D19
    simp [Region.wanted, Oper.wp, Act.eval, go_sem, d9, d9x, e14, e14x, e19, e19x, d24, d24x, d28, d28x]
    exact hK _ _ (Below.refl _ _) ⟨_, _, rfl, D14, D19⟩
    | k + 24, hk => exact absurd hk (by omega)
  · intro vs w3 hl hb3 hv
    match vs, hl with
    | v0 :: v1 :: v2 :: v3 :: v4 :: v5 :: v6 :: v7 :: v8 :: v9 :: v10 :: v11 :: v12 :: v13 :: v14 :: v15 :: v16 :: v17 :: v18 :: v19 :: v20 :: v21 :: v22 :: v23 :: [], _ =>
    obtain rfl : v0 = .pointer (some ⟨b, 0, none⟩) := hv 0 (by omega)
    obtain rfl : v1 = .pointer (some ⟨b, 0, none⟩) := hv 1 (by omega)
    obtain rfl : v2 = .pointer (some ⟨b, 0, none⟩) := hv 2 (by omega)
    obtain rfl : v3 = .int .i64 lv := hv 3 (by omega)
    obtain rfl : v4 = .pointer (some ⟨b, 0, none⟩) := hv 4 (by omega)
    obtain rfl : v5 = .pointer (some ⟨b, 0, none⟩) := hv 5 (by omega)
    obtain rfl : v6 = .pointer (some ⟨b, 1, none⟩) := hv 6 (by omega)
    obtain rfl : v7 = .slice A k c := hv 7 (by omega)
    have q8 : PtNew w3 v8 pr := hv 8 (by omega)
    obtain rfl : v9 = .pointer (some ⟨b, 0, none⟩) := hv 9 (by omega)
    obtain rfl : v10 = .pointer (some ⟨b, 0, none⟩) := hv 10 (by omega)
    obtain rfl : v11 = .pointer (some ⟨b, 3, none⟩) := hv 11 (by omega)
    obtain rfl : v12 = .pointer q := hv 12 (by omega)
    have q13 : OwnV 3 w w3 v13 (pls.map fun (x : Nat) => Value.int .i64 (x : Nat)) := hv 13 (by omega)
    obtain rfl : v14 = .pointer (some ⟨b, 0, none⟩) := hv 14 (by omega)
    obtain rfl : v15 = .pointer (some ⟨b, 0, none⟩) := hv 15 (by omega)
    obtain rfl : v16 = .pointer (some ⟨b, 3, none⟩) := hv 16 (by omega)
    obtain rfl : v17 = .pointer q := hv 17 (by omega)
    obtain rfl : v18 = .bool dn := hv 18 (by omega)
    obtain rfl : v19 = .pointer (some ⟨b, 0, none⟩) := hv 19 (by omega)
    obtain rfl : v20 = .pointer (some ⟨b, 0, none⟩) := hv 20 (by omega)
    obtain rfl : v21 = .pointer (some ⟨b, 2, none⟩) := hv 21 (by omega)
    obtain rfl : v22 = .int .u64 (v : Nat) := hv 22 (by omega)
    have q23 : ∃ u p9, v23 = .agg #[.int .i64 lv, u, p9, .bool dn, .int .u64 (v : Nat)] ∧ PtNew w3 u pr ∧ OwnV 3 w w3 p9 (pls.map fun (x : Nat) => Value.int .i64 (x : Nat)) := hv 23 (by omega)
    clear hv
    simp only [putAll, List.take_succ_cons, List.take_zero, List.drop_succ_cons, List.drop_zero, Act.put, List.setIfInBounds_toArray, List.set_cons_succ, List.set_cons_zero]
    clear q8 q13
    obtain ⟨u, p9, rfl, hpt, hpl⟩ := q23
    have hb4 : Below w.heap.size w w3 := below_trans (by repeat (first | exact Below.refl _ _ | (refine Below.drew ?_) | (refine below_drewN' ?_ _) | (refine below_alloc' ?_ _) | (refine Below.setCell ?_ (by first | exact Nat.le_refl _ | (simp; done) | (simp; omega)) _))) hb3
    have hblk : w3.heap[w.heap.size]? = some (.cells #[.int .i64 0, .slice none 0 0, .slice none 0 0, .bool false, .int .u64 0] 222 (0, 0)) := (hb3.block _ (by simp)).trans (by show (w.heap.push _)[w.heap.size]? = _; simp)
    have k0 : w3.cell? ⟨w.heap.size, 0, none⟩ = some (.int .i64 0) := by simp only [World.cell?, hblk]; simp
    have k1 : w3.cell? ⟨w.heap.size, 1, none⟩ = some (.slice none 0 0) := by simp only [World.cell?, hblk]; simp
    have k2 : w3.cell? ⟨w.heap.size, 2, none⟩ = some (.slice none 0 0) := by simp only [World.cell?, hblk]; simp
    have k3 : w3.cell? ⟨w.heap.size, 3, none⟩ = some (.bool false) := by simp only [World.cell?, hblk]; simp
    have k4 : w3.cell? ⟨w.heap.size, 4, none⟩ = some (.int .u64 0) := by simp only [World.cell?, hblk]; simp
    have f0 : w3.frozen? ⟨w.heap.size, 0, none⟩ = false := by simp [World.frozen?, hblk]
    have f1 : w3.frozen? ⟨w.heap.size, 1, none⟩ = false := by simp [World.frozen?, hblk]
    have f2 : w3.frozen? ⟨w.heap.size, 2, none⟩ = false := by simp [World.frozen?, hblk]
    have f3 : w3.frozen? ⟨w.heap.size, 3, none⟩ = false := by simp [World.frozen?, hblk]
    have f4 : w3.frozen? ⟨w.heap.size, 4, none⟩ = false := by simp [World.frozen?, hblk]
    have hlt := kr_lt hblk
    obtain ⟨A9, c9, rfl, _⟩ := RdU.point hpt.rd
    obtain ⟨A8, c8, e8⟩ := hpl.shape
    rw [List.length_map] at e8
    subst e8
    have s0 := kr_set (k := 0) (u := .int .i64 lv) hblk
    have s1 := kr_set (k := 1) (u := .slice A9 pr.length c9) s0
    have s2 := kr_set (k := 2) (u := .slice A8 pls.length c8) s1
    have s3 := kr_set (k := 3) (u := .bool dn) s2
    have hset := ((((hpt.set (j := 0) (x := .int .i64 lv) hblk (by decide)).set (j := 1) (x := .slice A9 pr.length c9) s0 (by decide)).set (j := 2) (x := .slice A8 pls.length c8) s1 (by decide)).set (j := 3) (x := .bool dn) s2 (by decide)).set (j := 4) (x := .int .u64 (v : Nat)) s3 (by decide)
    have hset2 := ((((hpl.set (j := 0) (x := .int .i64 lv) hblk (by decide)).set (j := 1) (x := .slice A9 pr.length c9) s0 (by decide)).set (j := 2) (x := .slice A8 pls.length c8) s1 (by decide)).set (j := 3) (x := .bool dn) s2 (by decide)).set (j := 4) (x := .int .u64 (v : Nat)) s3 (by decide)
    have hbb := ((((hb4.setCell (p := ⟨w.heap.size, 0, none⟩) (Nat.le_refl _) (.int .i64 lv)).setCell (p := ⟨w.heap.size, 1, none⟩) (Nat.le_refl _) (.slice A9 pr.length c9)).setCell (p := ⟨w.heap.size, 2, none⟩) (Nat.le_refl _) (.slice A8 pls.length c8)).setCell (p := ⟨w.heap.size, 3, none⟩) (Nat.le_refl _) (.bool dn)).setCell (p := ⟨w.heap.size, 4, none⟩) (Nat.le_refl _) (.int .u64 (v : Nat))
    have HF := Lib.hid (And.intro hset (And.intro hset2 hbb))
    clear hpt hpl hset hset2 hbb hb3 hb4 hblk s0 s1 s2 s3
    go_wp2_with fail
    refine bodyPost_ret (v := .agg #[.int .i64 lv, .slice A9 pr.length c9, .slice A8 pls.length c8, .bool dn, .int .u64 (v : Nat)]) (by simp [results, Tryz.results136, go_sem, k0, k1, k2, k3, k4]) rfl ⟨_, rfl, ⟨_, _, rfl, HF.out.1, HF.out.2.1⟩, HF.out.2.2⟩
theorem nshape_any (w : World) (k b : Nat) (l : List En) (h : Nd w k b l) (k1 : 1 ≤ k) (k16 : k ≤ 16) :
    Calls Tryz.prog 136 #[.pointer (some ⟨b, 0, none⟩)] w fun e w' => ShP w (shL l) e w' := by
  cases h with
  | leaf _ p v h hp ho hv =>
    exact shp_gen w b k v (-1) p [] false none _ h hp k1 k16 (fun w' _ => (places_nil w').mono fun e w'' ⟨h1, h2⟩ => ⟨_, h1, h2 ▸ World.ownsRow_nil _ _ _ _, h2 ▸ Below.refl _ _⟩) (fun w' _ => dn_nil w')
  | node _ s n pre ks h hs hkd hn =>
    rw [hkd.sh]
    have e : (ks.map kb).map placeV = ((ks.map kl).map (·.1)).map fun (x : Nat) => Value.int .i64 (x : Nat) := by
      rw [List.map_map, List.map_map, List.map_map]
      rfl
    refine shp_gen w b k 0 n pre ((ks.map kl).map (·.1)) (densB k (ks.map kl).length) _ _ h hkd.preLen.1 k1 k16 (fun w' hb => ?_) (fun w' hb => ?_)
    · rw [← e]
      exact places_any s k _ w' (hs.below hb)
    · have := dn_any s k _ w' (hs.below hb)
      rw [List.length_map] at this
      rw [List.length_map]
      exact this
end Go.Proofs.YtdkomhmciihkiaaGreat
/-! WlkP -/
namespace Go.Proofs.YtdkomhmciihkiaaGreat
open Go.RowKit
set_option linter.unusedVariables false

theorem fromI_zero (l : List (Nat × Nat)) : fromI l 0 = l[0]? := by
  unfold fromI
  cases l with
  | nil => rfl
  | cons x l => simp
theorem fromI_skip {x : Nat × Nat} {l : List (Nat × Nat)} {a : Int} (h : (x.1 : Int) < a) : fromI (x :: l) a = fromI l a := by
  unfold fromI
  rw [List.find?_cons_of_neg]
  simp; omega
theorem fromI_hit {x : Nat × Nat} {l : List (Nat × Nat)} {a : Int} (h : a ≤ (x.1 : Int)) : fromI (x :: l) a = some x := by
  unfold fromI
  rw [List.find?_cons_of_pos]
  simpa using h
theorem fromI_next {l : List (Nat × Nat)} (h : Od.Asc ka l) (j : Nat) (hj : j < l.length) : fromI l (((l[j].1 : Nat) : Int) + 1) = l[j + 1]? := by
  induction l generalizing j with
  | nil => simp at hj
  | cons x l ih =>
    cases j with
    | zero =>
      rw [List.getElem_cons_zero, fromI_skip (by omega)]
      cases l with
      | nil => rfl
      | cons y l =>
        have : x.1 < y.1 := h.head y (List.mem_cons_self ..)
        rw [fromI_hit (by omega)]
        rfl
    | succ j =>
      have hj' : j < l.length := by simpa using hj
      have : x.1 < l[j].1 := h.head _ (List.getElem_mem hj')
      rw [List.getElem_cons_succ, fromI_skip (by omega), ih h.tail j hj']
      rfl
/-- what From hands back: the address, the kid -/
def frA (o : Option (Nat × Nat)) : Value := match o with | some x => .int .i64 (x.1 : Nat) | none => .int .i64 0
def frK (o : Option (Nat × Nat)) : Value := match o with | some x => pv (some x.2) | none => .pointer none
theorem frA_some (x : Nat × Nat) : frA (some x) = .int .i64 (x.1 : Nat) := rfl
theorem frK_some (x : Nat × Nat) : frK (some x) = .pointer (some ⟨x.2, 0, none⟩) := rfl
theorem frA_none : frA none = .int .i64 0 := rfl
theorem frK_none : frK none = .pointer none := rfl
theorem nfromV_eq (o : Option (Nat × Nat)) : nfromV o = .tuple #[frA o, frK o] := by cases o <;> rfl
def frO (ks : List (Nat × Nat × List En)) (j : Nat) : Option (Nat × Nat) := (ks.map kb)[j]?
theorem frO_some {ks : List (Nat × Nat × List En)} {j : Nat} (h : j < ks.length) : frO ks j = some (ks[j].1, ks[j].2.1) := by
  unfold frO; rw [List.getElem?_map, List.getElem?_eq_getElem h]; rfl
theorem frO_none {ks : List (Nat × Nat × List En)} {j : Nat} (h : ¬ j < ks.length) : frO ks j = none := by
  unfold frO; rw [List.getElem?_map, List.getElem?_eq_none (by omega)]; rfl
/-- how far there is to go -/
def kmu (a k : Value) : Nat := match k with | .pointer none => 0 | _ => 65537 - (intOf a).toNat
theorem kmu_some (x b : Nat) : kmu (.int .i64 (x : Nat)) (.pointer (some ⟨b, 0, none⟩)) = 65537 - x := by
  show 65537 - (intOf (.int .i64 (x : Nat))).toNat = _
  rw [intOf_nat, Int.toNat_natCast]
/-- From, kid by kid -/
structure FromK (w : World) (b : Nat) (ks : List (Nat × Nat × List En)) : Prop where
  zero : ∀ w', Below w.heap.size w w' → Calls Tryz.prog 178 #[.pointer (some ⟨b, 0, none⟩), .int .i64 0] w' fun e w'' => e = .returned (.tuple #[frA (frO ks 0), frK (frO ks 0)]) ∧ Below w'.heap.size w' w''
  next : ∀ j (hj : j < ks.length) w', Below w.heap.size w w' → Calls Tryz.prog 178 #[.pointer (some ⟨b, 0, none⟩), .int .i64 (((ks[j].1 : Nat) : Int) + 1)] w' fun e w'' => e = .returned (.tuple #[frA (frO ks (j + 1)), frK (frO ks (j + 1))]) ∧ Below w'.heap.size w' w''
  lt : ∀ j (hj : j < ks.length), ks[j].1 < 65536
  mu : ∀ j (hj : j < ks.length), kmu (frA (frO ks (j + 1))) (frK (frO ks (j + 1))) < kmu (frA (frO ks j)) (frK (frO ks j))
theorem FromK.of {w : World} {b s k : Nat} {ks : List (Nat × Nat × List En)} (c3 : w.cell? ⟨b, 3, none⟩ = some (.pointer (some ⟨s, 0, none⟩))) (hs : SlR w s k (ks.map kb)) : FromK w b ks := by
  have hasc := hs.rw'.asc
  have hlt : ∀ j (hj : j < ks.length), ks[j].1 < 65536 := fun j hj => by
    have h1 := hs.rw'.lt (kb ks[j]) (List.mem_map_of_mem (List.getElem_mem hj))
    have h2 := pow_le k hs.k16
    have : (kb ks[j]).1 = ks[j].1 := rfl
    omega
  refine ⟨fun w' hb => ?_, fun j hj w' hb => ?_, hlt, fun j hj => ?_⟩
  · have := nfrom_any w' b s k (ks.map kb) 0 (Below.keeps hb _ _ c3) (hs.below hb)
    rw [nfromV_eq, fromI_zero] at this
    exact this
  · have := nfrom_any w' b s k (ks.map kb) (((ks[j].1 : Nat) : Int) + 1) (Below.keeps hb _ _ c3) (hs.below hb)
    have h2 := fromI_next hasc j (by rw [List.length_map]; exact hj)
    rw [List.getElem_map] at h2
    rw [nfromV_eq, show ((ks[j].1 : Nat) : Int) = (((kb ks[j]).1 : Nat) : Int) from rfl, h2] at this
    exact this
  · rw [frO_some hj]
    by_cases h : j + 1 < ks.length
    · rw [frO_some h]
      have h1 : ((ks.map kb)[j]'(by simpa using hj)).1 < ((ks.map kb)[j + 1]'(by simpa using h)).1 := List.pairwise_iff_getElem.1 hasc j (j + 1) (by simpa using hj) (by simpa using h) (by omega)
      rw [List.getElem_map, List.getElem_map] at h1
      have h1 : ks[j].1 < ks[j + 1].1 := h1
      have h2 := hlt _ h
      show kmu (.int .i64 (ks[j + 1].1 : Nat)) (.pointer (some ⟨ks[j + 1].2.1, 0, none⟩)) < kmu (.int .i64 (ks[j].1 : Nat)) (.pointer (some ⟨ks[j].2.1, 0, none⟩))
      rw [kmu_some, kmu_some]
      omega
    · rw [frO_none h]
      have h2 := hlt _ hj
      show 0 < kmu (.int .i64 (ks[j].1 : Nat)) (.pointer (some ⟨ks[j].2.1, 0, none⟩))
      rw [kmu_some]
      omega
theorem FromK.bel {w w1 : World} {b : Nat} {ks : List (Nat × Nat × List En)} (h : FromK w b ks) (hb : Below w.heap.size w w1) : FromK w1 b ks :=
  ⟨fun w' hb2 => h.zero w' (hb.trans (hb2.mono hb.size)), fun j hj w' hb2 => h.next j hj w' (hb.trans (hb2.mono hb.size)), h.lt, h.mu⟩
end Go.Proofs.YtdkomhmciihkiaaGreat
/-! TrA -/
namespace Go.Proofs.YtdkomhmciihkiaaGreat
open Go.RowKit
set_option linter.unusedVariables false
set_option linter.unusedSimpArgs false

/-- the tree at block b: k coordinates, the entries l -/
structure TrR (w : World) (b k : Nat) (l : List En) : Prop where
  c0 : w.cell? ⟨b, 0, none⟩ = some (.int .i64 (k : Nat))
  c1 : ∃ r, w.cell? ⟨b, 1, none⟩ = some (pv r) ∧ RtN w k r l
  k1 : 1 ≤ k
  k16 : k ≤ 16
  blk : ∃ cur, w.heap[b]? = some (.cells cur 194 (0, 0))
theorem TrR.bel {w w' : World} {b k : Nat} {l : List En} (h : TrR w b k l) (hb : Below w.heap.size w w') : TrR w' b k l := by
  have hl := World.block_lt_of_cell? w _ h.c0
  obtain ⟨h0, ⟨r, h1, h2⟩, h3, h4, cur, h5⟩ := h
  exact ⟨Below.keeps hb _ _ h0, ⟨r, Below.keeps hb _ _ h1, h2.below hb⟩, h3, h4, cur, (hb.block b hl).trans h5⟩
theorem RtN.et {w : World} {k : Nat} {r : Option Nat} {l : List En} (h : RtN w k r l) : Et k l := by
  cases r with
  | none => obtain rfl : l = [] := h; exact Et.nil k
  | some b => exact Nd.et h
theorem TrR.et {w : World} {b k : Nat} {l : List En} (h : TrR w b k l) : Et k l := by obtain ⟨r, _, h2⟩ := h.c1; exact h2.et
/-- the nodes on a point's way from a list's down to a list's -/
inductive Chain (w : World) (k : Nat) (p : List Nat) : List Nat → List En → List En → Prop
  | nil (l : List En) : Chain w k p [] l l
  | snoc (bs : List Nat) (l : List En) (b s n : Nat) (pre : List Nat) (ks : List (Nat × Nat × List En)) (sub : Chain w k p bs l (cat (ks.map kl))) (h : Hd w b n pre 0 (.pointer (some ⟨s, 0, none⟩)) (sumsL (cat (ks.map kl))))
      (hs : SlR w s k (ks.map kb)) (hk : Kd k n pre (ks.map kl)) (hn : ∀ x ∈ ks, Nd w k x.2.1 x.2.2) (hc : Zb.cutN p (n + 1) = pre) : Chain w k p (bs ++ [b]) l (kidOf (Zb.addr p n) (ks.map kl))
theorem Chain.bel {w w' : World} {k : Nat} {p : List Nat} {bs : List Nat} {l lr : List En} (h : Chain w k p bs l lr) (hb : Below w.heap.size w w') : Chain w' k p bs l lr := by
  induction h with
  | nil l => exact .nil l
  | snoc bs l b s n pre ks sub h hs hk hn hc ih => exact .snoc bs l b s n pre ks ih (h.keep hb) (hs.below hb) hk (fun x hx => (hn x hx).bel hb) hc
theorem Chain.inv {w : World} {k : Nat} {p : List Nat} {bs : List Nat} {b : Nat} {l lr : List En} (h : Chain w k p (bs ++ [b]) l lr) :
    ∃ (s n : Nat) (pre : List Nat) (ks : List (Nat × Nat × List En)), Chain w k p bs l (cat (ks.map kl)) ∧ Hd w b n pre 0 (.pointer (some ⟨s, 0, none⟩)) (sumsL (cat (ks.map kl))) ∧ SlR w s k (ks.map kb) ∧ Kd k n pre (ks.map kl) ∧ (∀ x ∈ ks, Nd w k x.2.1 x.2.2) ∧ Zb.cutN p (n + 1) = pre ∧ lr = kidOf (Zb.addr p n) (ks.map kl) := by
  generalize hbs : bs ++ [b] = ys at h
  cases h with
  | nil => simp at hbs
  | snoc bs' _ b' s n pre ks sub h hs hk hn hc =>
    obtain ⟨e1, e2⟩ := List.append_inj' hbs rfl
    injection e2 with e2
    subst e1 e2
    exact ⟨s, n, pre, ks, sub, h, hs, hk, hn, hc, rfl⟩
theorem look_kid_rt {w : World} {k a : Nat} {ks : List (Nat × Nat × List En)} (hn : ∀ x ∈ ks, Nd w k x.2.1 x.2.2) : RtN w k (lookI (ks.map kb) (a : Nat)) (kidOf a (ks.map kl)) := by
  unfold lookI kidOf
  rw [if_neg (by omega), Int.toNat_natCast, Od.look_map (key := ka) (key' := ka) kb (fun _ => rfl), Od.look_map (key := ka) (key' := ka) kl (fun _ => rfl)]
  cases e : Od.look ka ks a with
  | none => exact rfl
  | some x => exact hn x (Od.look_some e).1
theorem Kd.kid_lev {k n : Nat} {pre : List Nat} {ks : List (Nat × List En)} (h : Kd k n pre ks) {x : Nat × List En} (hx : x ∈ ks) : Go.Proofs.YtdkomhmciihkiaaGreat.lev x.2 ≤ n := by
  have hne := h.ne x hx
  have h1 := head!_mem hne
  have h2 := getLast!_mem hne
  have hag := h.agr hx hx h1 h2
  have ha : Zb.addr x.2.head!.p n = Zb.addr x.2.getLast!.p n := by rw [h.adr x hx _ h1, h.adr x hx _ h2]
  have : Zb.agree x.2.head!.p x.2.getLast!.p n := fun m hm hm2 => by
    by_cases e : m = n
    · subst e; exact ha
    · exact hag m (by omega) hm2
  have := (Zb.part_agree _ _ _).2 this
  unfold Go.Proofs.YtdkomhmciihkiaaGreat.lev
  omega
theorem Kd.kidOf_lev {k n : Nat} {pre : List Nat} {ks : List (Nat × List En)} (h : Kd k n pre ks) (a : Nat) : Go.Proofs.YtdkomhmciihkiaaGreat.lev (kidOf a ks) ≤ n := by
  by_cases he : kidOf a ks = []
  · rw [he]
    have e : Go.Proofs.YtdkomhmciihkiaaGreat.lev [] = 0 := by
      unfold Go.Proofs.YtdkomhmciihkiaaGreat.lev
      rw [show Zb.part ([] : List En).head!.p ([] : List En).getLast!.p 64 = -1 from Zb.part_none 64 fun _ _ => rfl]; rfl
    omega
  · obtain ⟨e, he⟩ := List.exists_mem_of_ne_nil _ he
    obtain ⟨x, hx, _, h2⟩ := kidOf_mem he
    rw [← h2]; exact h.kid_lev hx
theorem Chain.get {w : World} {k : Nat} {p : List Nat} {bs : List Nat} {l lr : List En} (h : Chain w k p bs l lr) (hp : p.length = k) (ho : ∀ c ∈ p, c < 2 ^ 64) : getE l p = getE lr p := by
  induction h with
  | nil l => rfl
  | snoc bs l b s n pre ks sub h hs hk hn hc ih => rw [ih, hk.get hp ho]

/-- the level of the node in the frame, and two: a measure -/
def lvMu (v : Value) (w : World) : Nat := match v with
  | .pointer (some a) => match w.cell? a with
    | some (.int _ z) => (z + 2).toNat
    | _ => 0
  | _ => 0
set_option maxRecDepth 100000
theorem tk_any (w : World) (b k : Nat) (c0 : w.cell? ⟨b, 0, none⟩ = some (.int .i64 (k : Nat))) : Calls Tryz.prog 71 #[.pointer (some ⟨b, 0, none⟩)] w fun e w' => e = .returned (.int .i64 (k : Nat)) ∧ w' = w := by
  have hb := World.block_lt_of_cell? w _ c0
  go_enter Tryz.func71, Tryz.ntmps71
  go_wp2_with fail
  go_ret
  exact ⟨rfl, rfl⟩
theorem troot_any (w : World) (b : Nat) (q : Option Addr) (c1 : w.cell? ⟨b, 1, none⟩ = some (.pointer q)) : Calls Tryz.prog 68 #[.pointer (some ⟨b, 0, none⟩)] w fun e w' => e = .returned (.pointer q) ∧ w' = w := by
  have hb := World.block_lt_of_cell? w _ c1
  go_enter Tryz.func68, Tryz.ntmps68
  go_wp2_with fail
  go_ret
  exact ⟨rfl, rfl⟩
theorem tchk_any (w : World) (b k n c : Nat) (A : Option Addr) (c0 : w.cell? ⟨b, 0, none⟩ = some (.int .i64 (k : Nat))) : Calls Tryz.prog 112 #[.pointer (some ⟨b, 0, none⟩), .slice A n c] w fun e w' => e = .returned (.int .i64 (if n = k then 0 else 2)) ∧ w' = w := by
  have hb := World.block_lt_of_cell? w _ c0
  by_cases h : n = k
  · subst h
    have h1 : ((n : Int) != (n : Int)) = false := by simp
    go_enter Tryz.func112, Tryz.ntmps112
    go_wp2_with fail
    go_ret
    exact ⟨rfl, rfl⟩
  · have h1 : ((n : Int) != (k : Int)) = true := by simp; omega
    go_enter Tryz.func112, Tryz.ntmps112
    go_wp2_with fail
    go_ret
    exact ⟨rfl, rfl⟩
theorem down_any (w : World) (k b s n : Nat) (ls : List (Nat × Nat)) (p : List Nat) (vp : Value) (c0 : w.cell? ⟨b, 0, none⟩ = some (.int .i64 (n : Nat))) (c3 : w.cell? ⟨b, 3, none⟩ = some (.pointer (some ⟨s, 0, none⟩))) (hs : SlR w s k ls)
    (hp : RdU w vp (pti p)) (hl : p.length = k) (ho : ∀ c ∈ p, c < 2 ^ 64) (hn : n < 64) :
    Calls Tryz.prog 168 #[.pointer (some ⟨b, 0, none⟩), vp] w fun e w' => e = .returned (pv (lookI ls (Zb.addr p n : Nat))) ∧ Below w.heap.size w w' := by
  have HL := Lib.hid (nlev_any w b n c0)
  have HA := Lib.hid (zAddr_any p n vp w hp (by have := hs.k1; omega) (by have := hs.k16; omega) ho hn)
  have HK := Lib.hid (nkid_any w b s k ls (Zb.addr p n : Nat) c3 hs)
  obtain ⟨A, c, rfl, _⟩ := RdU.point hp
  obtain ⟨ad, had⟩ : ∃ ad, Zb.addr p n = ad := ⟨_, rfl⟩
  rw [had] at HA HK ⊢
  obtain ⟨lk, hlk⟩ : ∃ lk, lookI ls (ad : Nat) = lk := ⟨_, rfl⟩
  rw [hlk] at HK ⊢
  clear hs hp hl ho hn had hlk
  go_enter Tryz.func168, Tryz.ntmps168
  go_wp2_with fail
  refine HL.out.mono ?_
  rintro e w1 ⟨rfl, hw⟩
  obtain rfl := hw.symm
  go_wp2_with fail
  refine HA.out.mono ?_
  rintro e w1 ⟨rfl, hw⟩
  obtain rfl := hw.symm
  go_wp2_with fail
  refine HK.out.mono ?_
  rintro e w1 ⟨rfl, hb⟩
  have HB := Lib.hid hb
  clear hb
  go_wp2_with fail
  go_ret
  exact ⟨rfl, HB.out⟩
theorem Nd.leaf_of {w : World} {k b : Nat} {l : List En} (h : Nd w k b l) (h0 : lev l = 0) : ∃ p x, l = [⟨p, x⟩] := by
  cases h with
  | leaf _ p v h hp ho hv => exact ⟨p, v, rfl⟩
  | node _ s n pre ks h hs hkd hn => rw [hkd.lev] at h0; omega
theorem Nd.node_of {w : World} {k b : Nat} {l : List En} (h : Nd w k b l) (h0 : 0 < lev l) : ∃ (s n : Nat) (pre : List Nat) (ks : List (Nat × Nat × List En)), l = cat (ks.map kl) ∧ Hd w b n pre 0 (.pointer (some ⟨s, 0, none⟩)) (sumsL (cat (ks.map kl))) ∧ SlR w s k (ks.map kb) ∧ Kd k n pre (ks.map kl) ∧ ∀ x ∈ ks, Nd w k x.2.1 x.2.2 := by
  cases h with
  | leaf _ p v h hp ho hv => rw [lev_one] at h0; omega
  | node _ s n pre ks h hs hkd hn => exact ⟨s, n, pre, ks, rfl, h, hs, hkd, hn⟩
theorem lvMu_rt {w w' : World} {k : Nat} {r : Option Nat} {l : List En} (h : RtN w k r l) (hb : Below w.heap.size w w') : lvMu (pv r) w' ≤ lev l + 1 ∧ (r ≠ none → lvMu (pv r) w' = lev l + 1) := by
  cases r with
  | none => exact ⟨Nat.zero_le _, fun h => absurd rfl h⟩
  | some b =>
    obtain ⟨v, kp, hh⟩ := Nd.hd h
    have := Below.keeps hb _ _ hh.c0
    have e : lvMu (pv (some b)) w' = lev l + 1 := by
      unfold lvMu
      rw [pv_some]
      simp only [this]
      omega
    exact ⟨Nat.le_of_eq e, fun _ => e⟩
def ptrs (bs : List Nat) : List Value := bs.map fun (b : Nat) => Value.pointer (some ⟨b, 0, none⟩)
/-- what path hands back -/
def PathP (W : World) (k : Nat) (p : List Nat) (l : List En) (e : Ending) (w' : World) : Prop :=
  ∃ (v : Value) (bs : List Nat) (below : Option Nat), e = .returned (.tuple #[v, pv below]) ∧ OwnV 113 W w' v (ptrs bs) ∧ Below W.heap.size W w' ∧ bs.length ≤ 65 ∧
    ((∃ lr, Chain W k p bs l lr ∧ RtN W k below lr ∧ (below = none ∨ cov lr p = false)) ∨ (∃ bs0 b x, bs = bs0 ++ [b] ∧ Chain W k p bs0 l [⟨p, x⟩] ∧ Nd W k b [⟨p, x⟩] ∧ below = none))
set_option maxHeartbeats 4000000 in
theorem path_any (w : World) (t k : Nat) (p : List Nat) (l : List En) (vp : Value) (ht : TrR w t k l) (hp : RdU w vp (pti p)) (hl : p.length = k) (ho : ∀ c ∈ p, c < 2 ^ 64) :
    Calls Tryz.prog 113 #[.pointer (some ⟨t, 0, none⟩), vp] w fun e w' => PathP w k p l e w' := by
  obtain ⟨r0, c1, hr0⟩ := ht.c1
  have hbt := World.block_lt_of_cell? w _ c1
  have HV := Lib.hid hp
  obtain ⟨A2, c2, rfl, _⟩ := RdU.point hp
  rw [hl] at HV ⊢
  have HD := Lib.hid (And.intro hl (And.intro ho (And.intro ht.k1 ht.k16)))
  have C1 := Lib.hid c1
  have HR := Lib.hid hr0
  obtain ⟨q0, hq0⟩ := pv_ex r0
  rw [hq0] at c1
  have HQ := Lib.hid hq0
  clear ht hp hl ho hr0 hq0
  go_enter Tryz.func113, Tryz.ntmps113
  go_wp2_with fail
  refine wp_scope_jumps2 0 (fun a' w' => ∃ (ov : Value) (r : Option Nat) (bs : List Nat) (lr : List En) (u2 u3 u8 u9 u10 u11 u12 u13 u14 u15 u16 u17 u18 u19 u20 u21 u22 u23 u24 u25 u26 u27 u28 : Value), a' = { tmps := #[.pointer (some ⟨t, 0, none⟩), .slice A2 k c2, u2, u3, .slice none 0 0, .pointer none, ov, pv r, u8, u9, u10, u11, u12, u13, u14, u15, u16, u17, u18, u19, u20, u21, u22, u23, u24, u25, u26, u27, u28], defers := [] } ∧ OwnV 113 w w' ov (bs.map fun (b : Nat) => Value.pointer (some ⟨b, 0, none⟩)) ∧ Chain w k p bs l lr ∧ RtN w k r lr ∧ bs.length + lev lr ≤ 64 ∧ Below w.heap.size w w') (fun a' w' => lvMu (a'.tmps.getD 7 undef) w') rfl ?_ ?_
  · rintro a' w' ⟨ov, r, bs, lr, u2, u3, u8, u9, u10, u11, u12, u13, u14, u15, u16, u17, u18, u19, u20, u21, u22, u23, u24, u25, u26, u27, u28, rfl, hJ⟩
    obtain ⟨hown, hch, hrt, hlen, hb⟩ := hJ
    have H0 := Lib.hid (And.intro hown (And.intro hch (And.intro hrt (And.intro hlen hb))))
    cases r with
    | none =>
      clear hown hch hrt hlen hb
      simp only [pv_none]
      go_wp2_with fail
      refine (ncov_nil _ _).mono ?_
      rintro e w2 ⟨rfl, hw⟩
      obtain rfl := hw.symm
      go_wp2_with fail
      simp only [Exit.jump]
      go_ret2
      exact ⟨_, bs, none, rfl, H0.out.1, H0.out.2.2.2.2, by have := H0.out.2.2.2.1; omega, .inl ⟨lr, H0.out.2.1, H0.out.2.2.1, .inl rfl⟩⟩
    | some b =>
      have hnd : Nd w k b lr := hrt
      have HC := Lib.hid (ncov_any w' k b lr p _ (hnd.bel hb) (HV.out.below hb) HD.out.1 HD.out.2.1 HD.out.2.2.1 HD.out.2.2.2)
      cases hcv : cov lr p with
      | false =>
        rw [hcv] at HC
        have HCV := Lib.hid hcv
        clear hown hch hrt hlen hb hnd hcv
        simp only [pv_some]
        go_wp2_with fail
        refine HC.out.mono ?_
        rintro e w2 ⟨rfl, hw⟩
        obtain rfl := hw.symm
        go_wp2_with fail
        simp only [Exit.jump]
        go_ret2
        exact ⟨_, bs, some b, rfl, H0.out.1, H0.out.2.2.2.2, by have := H0.out.2.2.2.1; omega, .inl ⟨lr, H0.out.2.1, H0.out.2.2.1, .inr HCV.out⟩⟩
      | true =>
        rw [hcv] at HC
        obtain ⟨vv, kp, hh⟩ := hnd.hd
        have HND := Lib.hid hnd
        have HCV := Lib.hid hcv
        obtain ⟨lv, hlv⟩ : ∃ lv : Int, lv = (lev lr : Int) - 1 := ⟨_, rfl⟩
        rw [← hlv] at hh
        have HLV := Lib.hid hlv
        have C0 := Lib.hid hh.c0
        clear hown hch hrt hlen hb hnd hcv hh hlv
        simp only [pv_some]
        go_wp2_with fail
        refine HC.out.mono ?_
        rintro e w2 ⟨rfl, hw⟩
        obtain rfl := hw.symm
        go_wp2_with (at_builtin; refine wpList_append_V rfl (.tmp 18) (.tmp 20) rfl w (bs.map fun (b : Nat) => Value.pointer (some ⟨b, 0, none⟩)) (.pointer (some ⟨b, 0, none⟩)) nodesT ?_ ?_ ?_ ?_ ?_)
        · exact H0.out.1.below (by repeat (first | exact Below.refl _ _ | (refine Below.drew ?_) | (refine below_drewN' ?_ _) | (refine below_alloc' ?_ _) | (refine Below.setCell ?_ (by first | exact Nat.le_refl _ | (simp; done) | (simp; omega)) _)))
        · exact ⟨_, _, rfl, by simp [go_sem], rfl⟩
        · have := H0.out.2.2.2.2.size; simp; omega
        · rw [List.length_map]; have := H0.out.2.2.2.1; omega
        intro ov' w3 hown' hg
        have hb0 : Below w'.heap.size w' (w'.alloc (.cells #[.pointer (some ⟨b, 0, none⟩)] 113)) := below_alloc' (Below.refl _ _) _
        have hbw3 : Below w.heap.size w w3 := OwnV.grown (H0.out.1.below hb0) (H0.out.2.2.2.2.trans (hb0.mono H0.out.2.2.2.2.size)) hg
        have HN := Lib.hid (And.intro hown' hbw3)
        have CL := Below.keeps hbw3 _ _ C0.out
        obtain ⟨A3, c3, rfl⟩ := OwnV.shape hown'
        clear hown' hg hb0 hbw3
        go_wp2_with fail
        refine (nlev_any _ b lv CL).mono ?_
        rintro e w4 ⟨rfl, hw⟩
        obtain rfl := hw.symm
        by_cases hneg : lv < 0
        · have hd : decide (lv < 0) = true := by simp [hneg]
          go_wp2_with fail
          simp only [Exit.jump]
          go_ret2
          have hl0 : lev lr = 0 := by have := HLV.out; omega
          obtain ⟨q, x, rfl⟩ := HND.out.leaf_of hl0
          have hq : q = p := by
            have := HCV.out
            unfold cov at this
            rw [hl0, preL_one, Zb.cutN_zero] at this
            exact (of_decide_eq_true this).symm
          subst hq
          refine ⟨_, bs ++ [b], none, rfl, ?_, HN.out.2, by have := H0.out.2.2.2.1; simp; omega, .inr ⟨bs, b, x, rfl, H0.out.2.1, HND.out, rfl⟩⟩
          have := HN.out.1
          simp only [List.length_append, List.length_map, List.length_singleton] at this
          unfold ptrs
          rw [List.map_append]
          exact this
        · obtain ⟨s, n, pre, ks, e1, hh, hs, hk, hn⟩ := HND.out.node_of (by have := HLV.out; omega)
          have hl : lev lr = n + 1 := by rw [e1, hk.lev]
          have hd : decide (lv < 0) = false := by simp [hneg]
          have hd' : ¬ lv < 0 := hneg
          have hw := HN.out.2
          have HDW := Lib.hid (down_any w3 k b s n (ks.map kb) p _ (Below.keeps hw _ _ hh.c0) (Below.keeps hw _ _ hh.c3) (hs.below hw) (HV.out.below hw) HD.out.1 HD.out.2.1 hk.n64)
          have hc : Zb.cutN p (n + 1) = pre := by
            have := HCV.out
            unfold cov at this
            rw [hl, e1, hk.preL] at this
            exact of_decide_eq_true this
          have HCH := Lib.hid (show Chain w k p (bs ++ [b]) l (kidOf (Zb.addr p n) (ks.map kl)) from .snoc bs l b s n pre ks (e1 ▸ H0.out.2.1) hh hs hk hn hc)
          have HRT := Lib.hid (look_kid_rt (k := k) (a := Zb.addr p n) hn)
          have HKL := Lib.hid (And.intro (hk.kidOf_lev (Zb.addr p n)) hl)
          clear hh hs hk hn e1 hl hc hw
          generalize lookI (ks.map kb) (Zb.addr p n : Nat) = r2 at *
          generalize kidOf (Zb.addr p n) (ks.map kl) = lr2 at *
          obtain ⟨q2, hq2⟩ := pv_ex r2
          go_wp2_with fail
          refine HDW.out.mono ?_
          rintro e w5 ⟨rfl, hb5⟩
          have hbw5 := Lib.hid (HN.out.2.trans (hb5.mono HN.out.2.size))
          have HO5 := Lib.hid (HN.out.1.below hb5)
          clear hb5
          rw [hq2]
          go_wp2_with fail
          go_step3
          rw [← hq2]
          refine ⟨rfl, ⟨_, r2, bs ++ [b], lr2, _, _, _, _, _, _, _, _, _, _, _, _, _, _, _, _, _, _, _, _, _, _, _, rfl, ?_, HCH.out, HRT.out, ?_, hbw5.out⟩, ?_⟩
          · have := HO5.out
            simp only [List.length_append, List.length_map, List.length_singleton] at this
            rw [List.map_append]
            exact this
          · have h1 := HKL.out; have h2 := H0.out.2.2.2.1; rw [List.length_append, List.length_singleton]; omega
          · show lvMu (pv r2) _ < lvMu (.pointer (some ⟨b, 0, none⟩)) _
            have h1 := (lvMu_rt HRT.out hbw5.out).1
            have h2 := (lvMu_rt (r := some b) (show RtN w k (some b) lr from HND.out) H0.out.2.2.2.2).2 (by simp)
            rw [pv_some] at h2
            rw [h2]
            have h3 := HKL.out
            omega
  · intro Q' hQ'
    have HQ' := Lib.hid hQ'
    clear hQ'
    go_wp2_with fail
    go_step3
    simp only [Exit.then]
    rename_i hK
    refine hK _ _ ?_
    refine HQ'.out _ _ ?_
    rw [← HQ.out]
    exact ⟨.slice none 0 0, r0, [], l, _, _, _, _, _, _, _, _, _, _, _, _, _, _, _, _, _, _, _, _, _, _, _, rfl, World.ownsRow_nil _ _ _ _, .nil l, HR.out, by have := lev_le l; simp; omega, Below.refl _ _⟩
end Go.Proofs.YtdkomhmciihkiaaGreat
/-! TrB -/
namespace Go.Proofs.YtdkomhmciihkiaaGreat
open Go.RowKit
set_option linter.unusedVariables false
set_option linter.unusedSimpArgs false

/-- a row of nodes, read -/
def RdN (w : World) (v : Value) (bs : List Nat) : Prop := ∃ A c, v = .slice A bs.length c ∧ bs.length ≤ c ∧ (bs ≠ [] → ∃ g, A = some ⟨g, 0, none⟩ ∧ ∀ j (h : j < bs.length), w.cell? ⟨g, j, none⟩ = some (.pointer (some ⟨bs[j], 0, none⟩)))
theorem RdN.below {w w' : World} {v : Value} {bs : List Nat} (h : RdN w v bs) (hb : Below w.heap.size w w') : RdN w' v bs := by
  obtain ⟨A, c, h1, hc, h2⟩ := h
  refine ⟨A, c, h1, hc, fun h0 => ?_⟩
  obtain ⟨g, h3, h4⟩ := h2 h0
  exact ⟨g, h3, fun j hj => Below.keeps hb _ _ (h4 j hj)⟩
theorem OwnV.rdN {W w : World} {v : Value} {bs : List Nat} {t : TypeId} (h : OwnV t W w v (ptrs bs)) : RdN w v bs := by
  have hl : (ptrs bs).length = bs.length := List.length_map _
  obtain ⟨h1, h2⟩ := h
  rcases h2 with ⟨rfl, h0⟩ | ⟨g, cap, cur, rfl, hg, hh, hcap, hm, hs, ht⟩
  · exact ⟨none, 0, by rw [← hl, h0], by omega, fun hp => absurd (List.length_eq_zero_iff.1 (by omega)) hp⟩
  · refine ⟨_, _, by rw [hl], by omega, fun h0 => ⟨g, rfl, fun j hj => ?_⟩⟩
    have h3 : (ptrs bs)[j]? = some (.pointer (some ⟨bs[j], 0, none⟩)) := by unfold ptrs; rw [List.getElem?_map, List.getElem?_eq_getElem hj]; rfl
    have h4 : j < (ptrs bs).length * 1 := by omega
    rw [← h3]
    conv => rhs; rw [← ht]
    rw [List.getElem?_take_of_lt h4, World.cell?]
    simp only [hh]
    simp
/-- what may be done at the end of a way -/
def OpOk (k : Nat) (p : List Nat) (op : List En → List En) : Prop := ∀ (n : Nat) (pre : List Nat) (L : List (Nat × List En)), Kd k n pre L → Zb.cutN p (n + 1) = pre → op (kidOf (Zb.addr p n) L) ≠ [] →
  Kd k n pre (Od.ins ka (Zb.addr p n, op (kidOf (Zb.addr p n) L)) L) ∧ cat (Od.ins ka (Zb.addr p n, op (kidOf (Zb.addr p n) L)) L) = op (cat L)
theorem opok_ins {k : Nat} {p : List Nat} (v : Nat) (hp : p.length = k) (ho : ∀ c ∈ p, c < 2 ^ 64) : OpOk k p (insE p v) := fun n pre L h hc _ => h.ins v hp ho hc
theorem opok_del {k : Nat} {p : List Nat} (hp : p.length = k) (ho : ∀ c ∈ p, c < 2 ^ 64) : OpOk k p (delE p) := fun n pre L h _ hne => h.delSet hp ho hne
theorem Kd.kid_in {k n a : Nat} {pre : List Nat} {L : List (Nat × List En)} {m : List En} (h : Kd k n pre L) (hx : (a, m) ∈ L) : Zb.cutN (Go.Proofs.YtdkomhmciihkiaaGreat.preL m) (n + 1) = pre ∧ Zb.addr (Go.Proofs.YtdkomhmciihkiaaGreat.preL m) n = a ∧ Go.Proofs.YtdkomhmciihkiaaGreat.lev m ≤ n := by
  have hl := h.kid_lev hx
  have hm := head!_mem (h.ne _ hx)
  simp only at hl hm
  unfold Go.Proofs.YtdkomhmciihkiaaGreat.preL
  refine ⟨?_, ?_, hl⟩
  · rw [cut_cut _ _ _ (by omega)]; exact h.pre _ hx _ hm
  · rw [Zb.addr_cut _ _ _ hl]; exact h.adr _ hx _ hm
theorem pref_get {bs t : List Nat} {b : Nat} {l : List Nat} (h : (bs ++ [b]) ++ t = l) : ∃ hj : bs.length < l.length, l[bs.length] = b := by
  subst h
  refine ⟨by simp, ?_⟩
  simp
set_option maxRecDepth 100000
set_option maxHeartbeats 4000000 in
theorem up_any (w : World) (t k g : Nat) (p : List Nat) (bs : List Nat) (l lr : List En) (v : Value) (op : List En → List En) (c0 : w.cell? ⟨t, 0, none⟩ = some (.int .i64 (k : Nat))) (k1 : 1 ≤ k) (k16 : k ≤ 16) (hv : RdN w v bs)
    (hch : Chain w k p bs l lr) (hop : OpOk k p op) (hg : Nd w k g (op lr)) (hbl : bs.length ≤ 65) :
    Calls Tryz.prog 117 #[.pointer (some ⟨t, 0, none⟩), v, .pointer (some ⟨g, 0, none⟩)] w fun e w' => ∃ g', e = .returned (.pointer (some ⟨g', 0, none⟩)) ∧ TrR w' g' k (op l) ∧ Below w.heap.size w w' ∧ w.heap.size ≤ g' := by
  obtain ⟨A, c, rfl, _, hx⟩ := hv
  have HX := Lib.hid hx
  have C0 := Lib.hid (And.intro c0 (And.intro k1 k16))
  have HCH := Lib.hid (And.intro hch hg)
  have HL := Lib.hid hbl
  have HOP := Lib.hid hop
  have HW0 := Lib.hid (show wrap64 ((bs.length : Int) - 1) = (bs.length : Int) - 1 by unfold wrap64; omega)
  clear c0 k1 k16 hch hg hx hop hbl
  go_enter Tryz.func117, Tryz.ntmps117
  go_wp2_with fail
  go_loopw [2, 7] (fun nv iv wr => ∃ (bsr : List Nat) (g' : Nat) (lr' : List En), nv = .pointer (some ⟨g', 0, none⟩) ∧ iv = .int .i64 ((bsr.length : Int) - 1) ∧ (∃ tl, bsr ++ tl = bs) ∧ Chain w k p bsr l lr' ∧ Nd wr k g' (op lr') ∧ Below w.heap.size w wr) (fun _ iv _ => (intOf iv + 1).toNat)
  case atStart => exact ⟨bs, g, lr, rfl, by first | rfl | rw [HW0.out], ⟨[], by simp⟩, HCH.out.1, HCH.out.2, Below.refl _ _⟩
  case round =>
    obtain ⟨bsr, g', lr', rfl, rfl, hpre, hch, hnd, hb⟩ := hrel
    have HN := Lib.hid (And.intro hnd hb)
    rcases List.eq_nil_or_concat bsr with rfl | ⟨bs', b, rfl⟩
    · have HC := Lib.hid hch
      clear hpre hch hnd hb
      have q0 := Below.keeps HN.out.2 _ _ C0.out.1
      have hq := World.block_lt_of_cell? wr _ q0
      simp only [List.length_nil]
      go_wp2_with fail
      go_ret
      have hl : lr' = l := by
        have := HC.out
        generalize hbs : ([] : List Nat) = ys at this
        cases this with
        | nil => rfl
        | snoc bs' _ b' s n pre ks sub h hs hk hn hc => simp at hbs
      subst hl
      refine ⟨wr.heap.size, rfl, ⟨by simp [go_sem], ⟨some g', by simp [go_sem, pv_some], ?_⟩, C0.out.2.1, C0.out.2.2, _, alloc_blk _ _⟩, below_alloc' HN.out.2 _, HN.out.2.size⟩
      exact Nd.bel HN.out.1 (below_alloc' (Below.refl _ _) _)
    · rw [List.concat_eq_append] at *
      obtain ⟨tl, htl⟩ := hpre
      obtain ⟨s, n, pre, ks, hsub, hh, hs, hk, hn, hc, rfl⟩ := hch.inv
      obtain ⟨hj, hbj⟩ := pref_get htl
      obtain ⟨ga, rfl, hcells⟩ := HX.out (by intro h; rw [h] at hj; simp at hj)
      have x0 := Below.keeps hb _ _ (hcells _ hj)
      rw [hbj] at x0
      have hxl := World.block_lt_of_cell? wr _ x0
      obtain ⟨o1, o2⟩ := HOP.out n pre _ hk hc hnd.ne
      obtain ⟨i1, i2, i3⟩ := o1.kid_in ((Od.mem_ins_iff (key := ka) hk.asc).2 (.inl rfl))
      have HWI := Lib.hid (nwith_any wr k b s n g' pre ks _ (hh.keep hb) (hs.below hb) hk (fun x hx => (hn x hx).bel hb) hnd i1 i3)
      rw [i2, o2] at HWI
      have HS := Lib.hid hsub
      have HT := Lib.hid htl
      have h1 : (0 : Int) ≤ (bs'.length : Int) := by omega
      have h2 : (bs'.length : Int) < (bs.length : Int) := by omega
      have HWR := Lib.hid (show wrap64 ((bs'.length : Int) - 1) = (bs'.length : Int) - 1 by have := HL.out; unfold wrap64; omega)
      have he : ((bs' ++ [b]).length : Int) - 1 = (bs'.length : Int) := by rw [List.length_append, List.length_singleton]; omega
      have HE := Lib.hid he
      clear hcells hch hnd hb hh hs hk hn hc o1 o2 i1 i2 i3 hsub htl hbj
      simp only [he]
      go_wp2_with fail
      refine HWI.out.mono ?_
      rintro e w1 ⟨g2, rfl, hn2, hb2⟩
      have HN2 := Lib.hid (And.intro hn2 (HN.out.2.trans (hb2.mono HN.out.2.size)))
      clear hn2 hb2
      go_wp2_with fail
      go_roundw
      case rel => exact ⟨bs', g2, _, rfl, (by first | rw [HWR.out] | rfl), ⟨b :: tl, by rw [← HT.out]; simp⟩, HS.out, HN2.out.1, HN2.out.2⟩
      case measure => rw [intOf_of' HWR.out, intOf_nat]; omega
theorem found_none (w : World) (A : Option Addr) (c : Nat) :
    Calls Tryz.prog 114 #[.slice A 0 c] w fun e w' => e = .returned (.tuple #[.agg #[.slice none 0 0, .int .u64 0], .bool false]) ∧ Below w.heap.size w w' := by
  go_enter Tryz.func114, Tryz.ntmps114
  go_wp2_with fail
  refine bodyPost_ret (v := .tuple #[.agg #[.slice none 0 0, .int .u64 0], .bool false]) (by simp [results, Tryz.results114, go_sem]) rfl ⟨rfl, (by repeat (first | exact Below.refl _ _ | (refine Below.drew ?_) | (refine below_drewN' ?_ _) | (refine below_alloc' ?_ _) | (refine Below.setCell ?_ (by first | exact Nat.le_refl _ | (simp; done) | (simp; omega)) _)))⟩
theorem found_node (w : World) (bs : List Nat) (b s : Nat) (v : Value) (hv : RdN w v (bs ++ [b])) (y3 : w.cell? ⟨b, 3, none⟩ = some (.pointer (some ⟨s, 0, none⟩))) (hl : bs.length ≤ 65) :
    Calls Tryz.prog 114 #[v] w fun e w' => e = .returned (.tuple #[.agg #[.slice none 0 0, .int .u64 0], .bool false]) ∧ Below w.heap.size w w' := by
  obtain ⟨A, c, rfl, _, hx⟩ := hv
  obtain ⟨g, rfl, hc⟩ := hx (by simp)
  have x0 := hc bs.length (by simp)
  have hlb : g < w.heap.size := World.block_lt_of_cell? w _ x0
  rw [show (bs ++ [b])[bs.length]'(by simp) = b by simp] at x0
  have hlen : (bs ++ [b]).length = bs.length + 1 := by simp
  rw [hlen]
  have hw0 : wrap64 ((bs.length : Int) + 1 - 1) = (bs.length : Int) := by unfold wrap64; omega
  have h1 : (0 : Int) ≤ (bs.length : Int) := by omega
  have h2 : (bs.length : Int) < (bs.length : Int) + 1 := by omega
  have h3 : (((bs.length : Int) + 1) == 0) = false := by simp; omega
  have HE := Lib.hid (fun w' (h : Below w.heap.size w w') => ent_node w' b s (Below.keeps h _ _ y3))
  clear hx hc y3 hlen
  generalize bs.length = n at *
  go_enter Tryz.func114, Tryz.ntmps114
  go_wp2_with fail
  refine (HE.out _ (by repeat (first | exact Below.refl _ _ | (refine Below.drew ?_) | (refine below_drewN' ?_ _) | (refine below_alloc' ?_ _) | (refine Below.setCell ?_ (by first | exact Nat.le_refl _ | (simp; done) | (simp; omega)) _)))).mono ?_
  rintro e w1 ⟨rfl, hb⟩
  have hblk : w1.heap[w.heap.size]? = some (.cells #[.slice none 0 0, .int .u64 0] 35 (0, 0)) := (hb.block _ (by simp)).trans (by show (w.heap.push _)[w.heap.size]? = _; simp)
  have k0 : w1.cell? ⟨w.heap.size, 0, none⟩ = some (.slice none 0 0) := by simp only [World.cell?, hblk]; simp
  have k1 : w1.cell? ⟨w.heap.size, 1, none⟩ = some (.int .u64 0) := by simp only [World.cell?, hblk]; simp
  have f0 : w1.frozen? ⟨w.heap.size, 0, none⟩ = false := by simp [World.frozen?, hblk]
  have f1 : w1.frozen? ⟨w.heap.size, 1, none⟩ = false := by simp [World.frozen?, hblk]
  have hlt := kr_lt hblk
  have hb4 : Below w.heap.size w w1 := below_trans (by repeat (first | exact Below.refl _ _ | (refine Below.drew ?_) | (refine below_drewN' ?_ _) | (refine below_alloc' ?_ _) | (refine Below.setCell ?_ (by first | exact Nat.le_refl _ | (simp; done) | (simp; omega)) _))) hb
  have HF := Lib.hid ((hb4.setCell (p := ⟨w.heap.size, 0, none⟩) (Nat.le_refl _) (.slice none 0 0)).setCell (p := ⟨w.heap.size, 1, none⟩) (Nat.le_refl _) (.int .u64 0))
  clear hb hb4 hblk
  go_wp2_with fail
  refine bodyPost_ret (v := .tuple #[.agg #[.slice none 0 0, .int .u64 0], .bool false]) (by simp [results, Tryz.results114, go_sem, k0, k1]) rfl ⟨rfl, HF.out⟩
theorem Nd.leaf_hd {w : World} {k b x : Nat} {p : List Nat} (h : Nd w k b [⟨p, x⟩]) : Hd w b (-1) p x (.pointer none) (Sm.of x) ∧ p.length = k := by
  generalize hl : [(⟨p, x⟩ : En)] = l at h
  cases h with
  | leaf _ q v h hp ho hv => injection hl with hl _; injection hl with h1 h2; subst h1 h2; exact ⟨h, hp⟩
  | node _ s n pre ks h hs hkd hn => have := hkd.two_le; rw [← hl] at this; simp at this
theorem found_leaf (w : World) (bs : List Nat) (b k x : Nat) (p : List Nat) (v : Value) (hv : RdN w v (bs ++ [b])) (hnd : Nd w k b [⟨p, x⟩]) (k1 : 1 ≤ k) (k16 : k ≤ 16) (hl : bs.length ≤ 65) :
    Calls Tryz.prog 114 #[v] w fun e w' => EntP w p x e w' := by
  obtain ⟨A, c, rfl, _, hx⟩ := hv
  obtain ⟨g, rfl, hc⟩ := hx (by simp)
  have x0 := hc bs.length (by simp)
  have hlb : g < w.heap.size := World.block_lt_of_cell? w _ x0
  rw [show (bs ++ [b])[bs.length]'(by simp) = b by simp] at x0
  have hlen : (bs ++ [b]).length = bs.length + 1 := by simp
  rw [hlen]
  have hw0 : wrap64 ((bs.length : Int) + 1 - 1) = (bs.length : Int) := by unfold wrap64; omega
  have h1 : (0 : Int) ≤ (bs.length : Int) := by omega
  have h2 : (bs.length : Int) < (bs.length : Int) + 1 := by omega
  have h3 : (((bs.length : Int) + 1) == 0) = false := by simp; omega
  have HE := Lib.hid (fun w' (h : Below w.heap.size w w') => let ⟨h1, h2⟩ := (hnd.bel h).leaf_hd; ent_leaf w' b k x _ p _ h1 h2 k1 k16)
  clear hx hc hnd hlen k1 k16
  generalize bs.length = n at *
  go_enter Tryz.func114, Tryz.ntmps114
  go_wp2_with fail
  refine (HE.out _ (by repeat (first | exact Below.refl _ _ | (refine Below.drew ?_) | (refine below_drewN' ?_ _) | (refine below_alloc' ?_ _) | (refine Below.setCell ?_ (by first | exact Nat.le_refl _ | (simp; done) | (simp; omega)) _)))).mono ?_
  rintro e w1 ⟨u, rfl, hpt, hb⟩
  have hblk : w1.heap[w.heap.size]? = some (.cells #[.slice none 0 0, .int .u64 0] 35 (0, 0)) := (hb.block _ (by simp)).trans (by show (w.heap.push _)[w.heap.size]? = _; simp)
  have k0 : w1.cell? ⟨w.heap.size, 0, none⟩ = some (.slice none 0 0) := by simp only [World.cell?, hblk]; simp
  have k1 : w1.cell? ⟨w.heap.size, 1, none⟩ = some (.int .u64 0) := by simp only [World.cell?, hblk]; simp
  have f0 : w1.frozen? ⟨w.heap.size, 0, none⟩ = false := by simp [World.frozen?, hblk]
  have f1 : w1.frozen? ⟨w.heap.size, 1, none⟩ = false := by simp [World.frozen?, hblk]
  have hlt := kr_lt hblk
  have hb4 : Below w.heap.size w w1 := below_trans (by repeat (first | exact Below.refl _ _ | (refine Below.drew ?_) | (refine below_drewN' ?_ _) | (refine below_alloc' ?_ _) | (refine Below.setCell ?_ (by first | exact Nat.le_refl _ | (simp; done) | (simp; omega)) _))) hb
  have hset := (hpt.set (j := 0) (x := u) hblk (by decide)).set (j := 1) (x := .int .u64 (x : Nat)) (kr_set hblk) (by decide)
  obtain ⟨A9, c9, rfl, _⟩ := RdU.point hpt.rd
  have HF := Lib.hid (And.intro hset ((hb4.setCell (p := ⟨w.heap.size, 0, none⟩) (Nat.le_refl _) (.slice A9 p.length c9)).setCell (p := ⟨w.heap.size, 1, none⟩) (Nat.le_refl _) (.int .u64 (x : Nat))))
  clear hpt hset hb hb4 hblk
  go_wp2_with fail
  refine bodyPost_ret (v := .tuple #[.agg #[.slice A9 p.length c9, .int .u64 (x : Nat)], .bool true]) (by simp [results, Tryz.results114, go_sem, k0, k1]) rfl ⟨_, rfl, HF.out⟩
end Go.Proofs.YtdkomhmciihkiaaGreat
/-! BldP -/
namespace Go.Proofs.YtdkomhmciihkiaaGreat
open Go.RowKit
set_option linter.unusedVariables false

theorem key_le_agree {a b e : List Nat} {n : Nat} (hab : a.length = b.length) (hae : a.length = e.length) (oa : ∀ c ∈ a, c < 2 ^ 64) (ob : ∀ c ∈ b, c < 2 ^ 64) (oe : ∀ c ∈ e, c < 2 ^ 64)
    (hag : Zb.agree a b (n + 1)) (h1 : pkey a ≤ pkey e) (h2 : pkey e ≤ pkey b) : Zb.agree e a (n + 1) := by
  by_cases hp : Zb.part a e 64 < ((n + 1 : Nat) : Int)
  · exact ((Zb.part_agree a e (n + 1)).1 hp).symm
  · obtain ⟨m, hm⟩ : ∃ m : Nat, Zb.part a e 64 = m := ⟨(Zb.part a e 64).toNat, by omega⟩
    have hm64 : m < 64 := by have := Zb.part_lt a e 64; omega
    have hag2 : Zb.agree a e (m + 1) := (Zb.part_agree a e (m + 1)).1 (by omega)
    have hne : ¬ Zb.agree a e m := fun h => by have := (Zb.part_agree a e m).2 h; omega
    have hd : Zb.addr a m ≠ Zb.addr e m := fun h => hne fun j h3 h4 => by
      by_cases hj : j = m
      · subst hj; exact h
      · exact hag2 j (by omega) h4
    have hb1 : Zb.agree a b (m + 1) := hag.mono (by omega)
    have hb2 : Zb.addr a m = Zb.addr b m := hag m (by omega) hm64
    exfalso
    by_cases hlt : Zb.addr a m < Zb.addr e m
    · have := pkey_lt (p := b) (q := e) (by omega) hm64 (hb1.symm.trans hag2) (by omega)
      omega
    · have := pkey_lt (p := e) (q := a) (by omega) hm64 hag2.symm (by omega)
      omega
theorem asc_head {l : List En} (h : Od.Asc En.key l) (hne : l ≠ []) : ∀ e ∈ l, l.head!.key ≤ e.key := by
  cases l with
  | nil => exact absurd rfl hne
  | cons x l =>
    intro e he
    rcases List.mem_cons.1 he with rfl | he
    · exact Nat.le_refl _
    · exact Nat.le_of_lt (h.head e he)
theorem asc_last {l : List En} (h : Od.Asc En.key l) (hne : l ≠ []) : ∀ e ∈ l, e.key ≤ l.getLast!.key := by
  induction l with
  | nil => exact absurd rfl hne
  | cons x l ih =>
    intro e he
    cases l with
    | nil => obtain rfl : e = x := by simpa using he
             exact Nat.le_refl _
    | cons y l =>
      have hl : (x :: y :: l).getLast! = (y :: l).getLast! := by simp [List.getLast!]
      rw [hl]
      rcases List.mem_cons.1 he with rfl | he
      · have h1 := h.head _ (getLast!_mem (l := y :: l) (by simp))
        omega
      · exact ih h.tail (by simp) e he
theorem head_lt_last {l : List En} (h : Od.Asc En.key l) (h2 : 2 ≤ l.length) : l.head!.key < l.getLast!.key := by
  cases l with
  | nil => simp at h2
  | cons x l =>
    cases l with
    | nil => simp at h2
    | cons y l =>
      have hl : (x :: y :: l).getLast! = (y :: l).getLast! := by simp [List.getLast!]
      rw [hl]
      exact h.head _ (getLast!_mem (l := y :: l) (by simp))
/-- a list of two or more in order is that of a node's kids -/
theorem kd_of {k : Nat} {l : List En} (h : Et k l) (h2 : 2 ≤ l.length) : ∃ n pre ks, Kd k n pre ks ∧ cat ks = l := by
  have hne : l ≠ [] := by intro e; rw [e] at h2; simp at h2
  obtain ⟨a, ha⟩ : ∃ a, l.head! = a := ⟨_, rfl⟩
  obtain ⟨b, hb⟩ : ∃ b, l.getLast! = b := ⟨_, rfl⟩
  have ham : a ∈ l := ha ▸ head!_mem hne
  have hbm : b ∈ l := hb ▸ getLast!_mem hne
  have hab := head_lt_last h.asc h2
  have h1 := asc_head h.asc hne
  have h3 := asc_last h.asc hne
  rw [ha] at hab h1
  rw [hb] at hab h3
  have la := h.len a ham
  have lb := h.len b hbm
  have oa := h.ok a ham
  have ob := h.ok b hbm
  have hpn : ¬ Zb.part a.p b.p 64 < 0 := by
    intro hp
    have hag := (Zb.part_agree a.p b.p 0).1 (by simpa using hp)
    have := (Zb.cut_agree (by rw [la, lb]) oa ob 0).2 hag
    rw [Zb.cutN_zero, Zb.cutN_zero] at this
    have hk : a.key = b.key := by unfold En.key; rw [this]
    omega
  obtain ⟨n, hn⟩ : ∃ n : Nat, Zb.part a.p b.p 64 = n := ⟨(Zb.part a.p b.p 64).toNat, by omega⟩
  have hn64 : n < 64 := by have := Zb.part_lt a.p b.p 64; omega
  have hag : Zb.agree a.p b.p (n + 1) := (Zb.part_agree a.p b.p (n + 1)).1 (by omega)
  have hnag : ¬ Zb.agree a.p b.p n := fun hh => by have := (Zb.part_agree a.p b.p n).2 hh; omega
  have hd : Zb.addr a.p n ≠ Zb.addr b.p n := fun hh => hnag fun j h3 h4 => by
    by_cases hj : j = n
    · subst hj; exact hh
    · exact hag j (by omega) h4
  have hlt : Zb.addr a.p n < Zb.addr b.p n := by
    by_cases hl : Zb.addr a.p n < Zb.addr b.p n
    · exact hl
    · have := pkey_lt (p := b.p) (q := a.p) (by omega) hn64 hag.symm (by omega)
      have e1 : pkey b.p = b.key := rfl
      have e2 : pkey a.p = a.key := rfl
      omega
  have hpre : ∀ e ∈ l, Zb.cutN e.p (n + 1) = Zb.cutN a.p (n + 1) := fun e he =>
    (Zb.cut_agree (by rw [h.len e he, la]) (h.ok e he) oa _).2 (key_le_agree (by rw [la, lb]) (by rw [la, h.len e he]) oa ob (h.ok e he) hag (h1 e he) (h3 e he))
  have one : ∀ e ∈ l, Et k [e] := fun e he => by
    have := Et.one (k := k) e.v (h.len e he) (h.ok e he)
    exact this
  have base : Kd k n (Zb.cutN a.p (n + 1)) [(Zb.addr a.p n, [a]), (Zb.addr b.p n, [b])] := by
    refine Kd.pair hn64 hlt (by simp) (by simp) (one a ham) (one b hbm) ?_ ?_ ?_ ?_
    all_goals intro e he; obtain rfl := List.mem_singleton.1 he
    · rfl
    · exact hpre _ hbm
    · rfl
    · rfl
  have step : ∀ es : List En, (∀ e ∈ es, e ∈ l) → ∃ ks, Kd k n (Zb.cutN a.p (n + 1)) ks ∧ ∀ e, e ∈ cat ks ↔ (e = a ∨ e = b ∨ e ∈ es) := by
    intro es
    induction es with
    | nil =>
      intro _
      refine ⟨_, base, fun e => ?_⟩
      simp [cat]
    | cons x es ih =>
      intro hes
      obtain ⟨ks, hk, hm⟩ := ih fun e he => hes e (by simp [he])
      have hx := hes x (by simp)
      obtain ⟨i1, i2⟩ := hk.ins x.v (h.len x hx) (h.ok x hx) (hpre x hx)
      refine ⟨_, i1, fun e => ?_⟩
      rw [i2, hk.cat_et.mem_ins, hm]
      have hxx : (⟨x.p, x.v⟩ : En) = x := rfl
      rw [hxx]
      have sub : ∀ e, (e = a ∨ e = b ∨ e ∈ es) → e ∈ l := fun e he => by
        rcases he with rfl | rfl | he
        · exact ham
        · exact hbm
        · exact hes e (by simp [he])
      constructor
      · rintro (rfl | ⟨hh, _⟩)
        · simp
        · rcases hh with h | h | h
          · exact .inl h
          · exact .inr (.inl h)
          · exact .inr (.inr (by simp [h]))
      · intro hh
        by_cases hex : e = x
        · exact .inl hex
        · have h4 : e = a ∨ e = b ∨ e ∈ es := by
            rcases hh with h | h | h
            · exact .inl h
            · exact .inr (.inl h)
            · rcases List.mem_cons.1 h with h | h
              · exact absurd h hex
              · exact .inr (.inr h)
          refine .inr ⟨h4, fun hk => hex ?_⟩
          have h5 := Od.look_mem h.asc (sub e h4)
          have h6 := Od.look_mem h.asc hx
          have h7 : e.key = x.key := hk
          rw [h7, h6] at h5
          injection h5 with h5
          exact h5.symm
  obtain ⟨ks, hk, hm⟩ := step l fun e he => he
  refine ⟨n, _, ks, hk, hk.cat_et.ext h fun e => ?_⟩
  rw [hm]
  constructor
  · rintro (rfl | rfl | h)
    · exact ham
    · exact hbm
    · exact h
  · exact fun h => .inr (.inr h)
end Go.Proofs.YtdkomhmciihkiaaGreat
/-! BldQ -/
namespace Go.Proofs.YtdkomhmciihkiaaGreat
open Go.RowKit
set_option linter.unusedVariables false

theorem cat_take_succ (L : List (Nat × List En)) (j : Nat) (h : j < L.length) : cat (L.take (j + 1)) = cat (L.take j) ++ L[j].2 := by
  unfold cat
  rw [← List.take_append_getElem h, List.flatMap_append]
  simp
theorem cat_split (L : List (Nat × List En)) (j : Nat) (h : j < L.length) : cat L = cat (L.take j) ++ (L[j].2 ++ cat (L.drop (j + 1))) := by
  conv => lhs; rw [← List.take_append_drop j L, ← List.getElem_cons_drop h]
  unfold cat
  rw [List.flatMap_append, List.flatMap_cons]
theorem cat_part (L : List (Nat × List En)) (j : Nat) (h : j < L.length) : ((cat L).drop (cat (L.take j)).length).take L[j].2.length = L[j].2 := by
  rw [cat_split L j h, List.drop_left, List.take_left]
theorem cat_get (L : List (Nat × List En)) (j t : Nat) (h : j < L.length) (ht : t < L[j].2.length) (hb : (cat (L.take j)).length + t < (cat L).length) : (cat L)[(cat (L.take j)).length + t] = L[j].2[t] := by
  have h1 := cat_split L j h
  have : (cat L)[(cat (L.take j)).length + t]? = some L[j].2[t] := by
    rw [h1, List.getElem?_append_right (by omega), Nat.add_sub_cancel_left, List.getElem?_append_left ht, List.getElem?_eq_getElem ht]
  rw [List.getElem?_eq_getElem hb] at this
  injection this
theorem cat_room (L : List (Nat × List En)) (j : Nat) (h : j < L.length) : (cat (L.take j)).length + L[j].2.length ≤ (cat L).length := by
  have h1 := congrArg List.length (cat_split L j h)
  simp only [List.length_append] at h1
  omega
theorem Kd.take {k n : Nat} {pre : List Nat} {L : List (Nat × List En)} (h : Kd k n pre L) {j : Nat} (h2 : 2 ≤ j) (hj : j ≤ L.length) : Kd k n pre (L.take j) := by
  have hm : ∀ x ∈ L.take j, x ∈ L := fun x hx => List.mem_of_mem_take hx
  exact ⟨by rw [List.length_take]; omega, h.n64, List.Pairwise.sublist (List.take_sublist j L) h.asc, fun x hx => h.ne x (hm x hx), fun x hx => h.et x (hm x hx), fun x hx => h.pre x (hm x hx), fun x hx => h.adr x (hm x hx)⟩
theorem ins_last {α : Type} {key : α → Nat} {x : α} {l : List α} (h : ∀ y ∈ l, key y < key x) : Od.ins key x l = l ++ [x] := by
  induction l with
  | nil => rfl
  | cons y l ih =>
    unfold Od.ins
    rw [if_pos (h y (by simp)), ih fun z hz => h z (by simp [hz])]
    rfl
theorem Kd.uniq {k n n' : Nat} {pre pre' : List Nat} {L M : List (Nat × List En)} (h : Kd k n pre L) (g : Kd k n' pre' M) (e : cat L = cat M) : L = M := by
  have h1 := h.kids
  have h2 := h.places
  rw [e] at h1 h2
  rw [g.kids] at h1
  rw [g.places] at h2
  have key : ∀ (a b : List (Nat × List En)), a.map (·.1) = b.map (·.1) → a.map (·.2) = b.map (·.2) → a = b := by
    intro a
    induction a with
    | nil => intro b h _; cases b with
      | nil => rfl
      | cons y b => simp at h
    | cons x a ih =>
      intro b h g
      cases b with
      | nil => simp at h
      | cons y b =>
        simp only [List.map_cons, List.cons.injEq] at h g
        rw [ih b h.2 g.2, Prod.ext h.1 g.1]
  exact key L M h2.symm h1.symm
theorem bld_pair (w : World) (k n g0 g1 : Nat) (pre : List Nat) (L : List (Nat × List En)) (h : Kd k n pre L) (k1 : 1 ≤ k) (k16 : k ≤ 16) (h2 : 2 ≤ L.length) (n0 : Nd w k g0 (L[0]'(by omega)).2) (n1 : Nd w k g1 (L[1]'(by omega)).2) :
    Calls Tryz.prog 116 #[.pointer (some ⟨g0, 0, none⟩), .pointer (some ⟨g1, 0, none⟩)] w fun e w' => NdT w k (cat (L.take 2)) e w' := by
  cases L with
  | nil => simp at h2
  | cons x L =>
  cases L with
  | nil => simp at h2
  | cons y L =>
  obtain ⟨ax, lx⟩ := x
  obtain ⟨ay, ly⟩ := y
  simp only [List.getElem_cons_zero, List.getElem_cons_succ] at n0 n1
  obtain ⟨p1, p2, p3⟩ := h.kid_in (a := ax) (m := lx) (by simp)
  obtain ⟨q1, q2, q3⟩ := h.kid_in (a := ay) (m := ly) (by simp)
  have hlt : ax < ay := h.asc.head (ay, ly) (by simp)
  obtain ⟨u1, u2, u3⟩ := n0.pre_ok
  obtain ⟨v1, v2, v3⟩ := n1.pre_ok
  have hm : Zb.part (Go.Proofs.YtdkomhmciihkiaaGreat.preL lx) (Go.Proofs.YtdkomhmciihkiaaGreat.preL ly) 64 = n := Zb.part_eq h.n64 ((Zb.cut_agree (by rw [u1, v1]) u2 v2 _).1 (by rw [p1, q1])) (by rw [p2, q2]; omega)
  have := npair_any w k g0 g1 n lx ly n0 n1 hm p3 q3 k1 k16
  rw [p2, q2] at this
  have e : pairKs ax ay g0 g1 lx ly = [(ax, g0, lx), (ay, g1, ly)] := by
    unfold pairKs Od.ins ka
    rw [if_pos hlt]
    rfl
  rw [e] at this
  exact this
theorem bld_with (w : World) (k n g gk j : Nat) (pre : List Nat) (L : List (Nat × List En)) (h : Kd k n pre L) (h2 : 2 ≤ j) (hj : j < L.length) (hn : Nd w k g (cat (L.take j))) (hk : Nd w k gk L[j].2) :
    Calls Tryz.prog 176 #[.pointer (some ⟨g, 0, none⟩), .pointer (some ⟨gk, 0, none⟩)] w fun e w' => NdT w k (cat (L.take (j + 1))) e w' := by
  have hT := h.take h2 (Nat.le_of_lt hj)
  obtain ⟨s, m, pr, ks, e1, hh, hs, hk2, hnn⟩ := hn.node_of (by rw [hT.lev]; omega)
  have hu := hT.uniq hk2 e1
  have hm : m = n := by
    have h1 := hT.lev
    have h2 := hk2.lev
    rw [e1] at h1
    omega
  have hpr : pr = pre := by
    have h1 := hT.preL
    have h2 := hk2.preL
    rw [e1] at h1
    rw [← h1, h2]
  subst hm hpr
  obtain ⟨p1, p2, p3⟩ := h.kid_in (a := L[j].1) (m := L[j].2) (List.getElem_mem hj)
  have := nwith_any w k g s m gk pr ks L[j].2 hh hs hk2 hnn hk p1 p3
  rw [p2, ← hu, ins_last (fun y hy => ?_)] at this
  · rw [show L.take j ++ [(L[j].1, L[j].2)] = L.take (j + 1) from by rw [List.take_append_getElem hj]] at this
    exact this
  · obtain ⟨i, hi, rfl⟩ := List.mem_iff_getElem.1 hy
    rw [List.length_take] at hi
    rw [List.getElem_take]
    exact List.pairwise_iff_getElem.1 h.asc i j (by omega) hj (by omega)
end Go.Proofs.YtdkomhmciihkiaaGreat
/-! WlkA -/
namespace Go.Proofs.YtdkomhmciihkiaaGreat
open Go.RowKit
set_option linter.unusedVariables false
set_option linter.unusedSimpArgs false
set_option maxRecDepth 100000

/-- the function f, with cap captured, is told entries; Inv says what it has been told -/
structure Tell (W : World) (f : FuncId) (cap : Array Value) (N : Nat) (Inv : List En → World → Prop) : Prop where
  ent : ∀ args w, (callFunc f args).run Tryz.prog w = .ok (.enter f args) w
  tell : ∀ d e u w', d.length < N → Inv d w' → Below W.heap.size W w' → PtNew w' u e.p → Calls Tryz.prog f (#[.agg #[u, .int .u64 (e.v : Nat)]] ++ cap) w' fun r w'' => r = .returned (.bool true) ∧ Inv (d ++ [e]) w'' ∧ Below W.heap.size W w''
  step : ∀ d w' w'', Inv d w' → Below w'.heap.size w' w'' → Inv d w''
def EachP (W : World) (Inv : List En → World → Prop) (d : List En) (e : Ending) (w' : World) : Prop := e = .returned (.bool true) ∧ Inv d w' ∧ Below W.heap.size W w'
theorem each_nil (w : World) (f : FuncId) (cap : Array Value) : Calls Tryz.prog 126 #[.pointer none, .func (.func f) #[] cap] w fun e w' => e = .returned (.bool true) ∧ w' = w := by
  go_enter Tryz.func126, Tryz.ntmps126
  go_wp2_with fail
  go_ret
  exact ⟨rfl, rfl⟩
set_option maxHeartbeats 2000000 in
theorem each_leaf (W w : World) (f : FuncId) (cap : Array Value) (N k b : Nat) (p : List Nat) (v : Nat) (Inv : List En → World → Prop) (d : List En) (T : Tell W f cap N Inv)
    (h : Hd W b (-1) p v (.pointer none) (Sm.of v)) (hp : p.length = k) (k1 : 1 ≤ k) (k16 : k ≤ 16) (hi : Inv d w) (hb : Below W.heap.size W w) (hN : d.length < N) :
    Calls Tryz.prog 126 #[.pointer (some ⟨b, 0, none⟩), .func (.func f) #[] cap] w fun e w' => EachP W Inv (d ++ [⟨p, v⟩]) e w' := by
  have HE := Lib.hid (ent_leaf w b k v (-1) p (Sm.of v) (h.keep hb) hp k1 k16)
  have HI := Lib.hid (And.intro hi (And.intro hb hN))
  have HT := Lib.hid T
  have hent := T.ent
  have hbl := (h.keep hb).c0
  have hbl := World.block_lt_of_cell? w _ hbl
  clear T h hp k1 k16 hi hb hN
  go_enter Tryz.func126, Tryz.ntmps126
  go_wp2_with fail
  refine HE.out.mono ?_
  rintro e w1 ⟨u, rfl, hpt, hb1⟩
  obtain ⟨A9, c9, rfl, _⟩ := RdU.point hpt.rd
  have HP := Lib.hid (And.intro hpt hb1)
  clear hpt hb1 hbl
  go_wp2_with fail
  refine (HT.out.tell _ ⟨p, v⟩ _ _ HI.out.2.2 (HT.out.step _ _ _ HI.out.1 (below_trans HP.out.2 (by repeat (first | exact Below.refl _ _ | (refine Below.drew ?_) | (refine below_drewN' ?_ _) | (refine below_alloc' ?_ _) | (refine Below.setCell ?_ (by first | exact Nat.le_refl _ | (simp; done) | (simp; omega)) _))))) (HI.out.2.1.trans ((below_trans HP.out.2 (by repeat (first | exact Below.refl _ _ | (refine Below.drew ?_) | (refine below_drewN' ?_ _) | (refine below_alloc' ?_ _) | (refine Below.setCell ?_ (by first | exact Nat.le_refl _ | (simp; done) | (simp; omega)) _)))).mono HI.out.2.1.size)) (HP.out.1.below (by repeat (first | exact Below.refl _ _ | (refine Below.drew ?_) | (refine below_drewN' ?_ _) | (refine below_alloc' ?_ _) | (refine Below.setCell ?_ (by first | exact Nat.le_refl _ | (simp; done) | (simp; omega)) _))))).mono ?_
  rintro e w2 ⟨rfl, hi2, hb2⟩
  have HF := Lib.hid (And.intro hi2 hb2)
  clear hi2 hb2
  go_wp2_with fail
  go_ret
  exact ⟨rfl, HF.out⟩
set_option maxHeartbeats 4000000 in
theorem each_node (W w : World) (f : FuncId) (cap : Array Value) (N b s k : Nat) (ks : List (Nat × Nat × List En)) (Inv : List En → World → Prop) (d : List En) (T : Tell W f cap N Inv)
    (c3 : W.cell? ⟨b, 3, none⟩ = some (.pointer (some ⟨s, 0, none⟩))) (hs : SlR W s k (ks.map kb)) (hi : Inv d w) (hb : Below W.heap.size W w) (hN : d.length + (cat (ks.map kl)).length ≤ N)
    (ih : ∀ x ∈ ks, ∀ (w' : World) (d : List En), Inv d w' → Below W.heap.size W w' → d.length + x.2.2.length ≤ N → Calls Tryz.prog 126 #[.pointer (some ⟨x.2.1, 0, none⟩), .func (.func f) #[] cap] w' fun e w'' => EachP W Inv (d ++ x.2.2) e w'') :
    Calls Tryz.prog 126 #[.pointer (some ⟨b, 0, none⟩), .func (.func f) #[] cap] w fun e w' => EachP W Inv (d ++ cat (ks.map kl)) e w' := by
  have HE := Lib.hid (ent_node w b s (Below.keeps hb _ _ c3))
  have HFK := Lib.hid (FromK.of c3 hs)
  have HI := Lib.hid (And.intro hi (And.intro hb hN))
  have HT := Lib.hid T
  have HIH := Lib.hid ih
  have hbl := World.block_lt_of_cell? w _ (Below.keeps hb _ _ c3)
  clear T c3 hs hi hb hN ih
  go_enter Tryz.func126, Tryz.ntmps126
  go_wp2_with fail
  refine HE.out.mono ?_
  rintro e w1 ⟨rfl, hb1⟩
  have HB1 := Lib.hid (HI.out.2.1.trans (hb1.mono HI.out.2.1.size))
  have HI1 := Lib.hid (HT.out.step _ _ _ HI.out.1 hb1)
  clear hb1 hbl
  go_wp2_with fail
  refine (HFK.out.zero _ (below_trans HB1.out (by repeat (first | exact Below.refl _ _ | (refine Below.drew ?_) | (refine below_drewN' ?_ _) | (refine below_alloc' ?_ _) | (refine Below.setCell ?_ (by first | exact Nat.le_refl _ | (simp; done) | (simp; omega)) _))))).mono ?_
  rintro e w2 ⟨rfl, hb2⟩
  have HB2 := Lib.hid ((below_trans HB1.out (by repeat (first | exact Below.refl _ _ | (refine Below.drew ?_) | (refine below_drewN' ?_ _) | (refine below_alloc' ?_ _) | (refine Below.setCell ?_ (by first | exact Nat.le_refl _ | (simp; done) | (simp; omega)) _)))).trans (hb2.mono (below_trans HB1.out (by repeat (first | exact Below.refl _ _ | (refine Below.drew ?_) | (refine below_drewN' ?_ _) | (refine below_alloc' ?_ _) | (refine Below.setCell ?_ (by first | exact Nat.le_refl _ | (simp; done) | (simp; omega)) _)))).size))
  have HI2 := Lib.hid (HT.out.step _ _ _ (HT.out.step _ _ _ HI1.out ((by repeat (first | exact Below.refl _ _ | (refine Below.drew ?_) | (refine below_drewN' ?_ _) | (refine below_alloc' ?_ _) | (refine Below.setCell ?_ (by first | exact Nat.le_refl _ | (simp; done) | (simp; omega)) _))) : Below w1.heap.size w1 _)) hb2)
  clear hb2
  go_wp2_with fail
  go_loopw [7, 8] (fun av kv wr => ∃ j : Nat, j ≤ ks.length ∧ av = frA (frO ks j) ∧ kv = frK (frO ks j) ∧ Inv (d ++ cat ((ks.map kl).take j)) wr ∧ Below W.heap.size W wr) (fun av kv _ => kmu av kv)
  case atStart => exact ⟨0, Nat.zero_le _, rfl, rfl, by simpa [cat] using HI2.out, HB2.out⟩
  case round =>
    obtain ⟨j, hj, rfl, rfl, hi, hb⟩ := hrel
    have HR := Lib.hid (And.intro hi hb)
    by_cases hlt : j < ks.length
    · have hcat := cat_take_succ (ks.map kl) j (by rw [List.length_map]; exact hlt)
      have hroom := cat_room (ks.map kl) j (by rw [List.length_map]; exact hlt)
      rw [List.getElem_map] at hcat hroom
      have hk2 : (kl ks[j]).2 = ks[j].2.2 := rfl
      rw [hk2] at hcat hroom
      have HK := Lib.hid (HIH.out ks[j] (List.getElem_mem hlt) wr _ hi hb (by have := HI.out.2.2; rw [List.length_append]; omega))
      have HNX := Lib.hid (HFK.out.next j hlt)
      have HMU := Lib.hid (HFK.out.mu j hlt)
      have HC := Lib.hid hcat
      have hla := HFK.out.lt j hlt
      rw [frO_some hlt] at HMU ⊢
      obtain ⟨A, hA⟩ : ∃ A, ks[j].1 = A := ⟨_, rfl⟩
      obtain ⟨B, hB⟩ : ∃ B, ks[j].2.1 = B := ⟨_, rfl⟩
      rw [hA] at HNX HMU hla ⊢
      rw [hB] at HK HMU ⊢
      have HW := Lib.hid (show wrap64 ((A : Int) + 1) = (A : Int) + 1 by unfold wrap64; omega)
      rw [frA_some, frK_some]
      clear hi hb hcat hroom hk2 hA hB hla
      go_wp2_with fail
      refine HK.out.mono ?_
      rintro e w3 ⟨rfl, hi3, hb3⟩
      have HR3 := Lib.hid (And.intro hi3 hb3)
      clear hi3 hb3
      go_wp2_with fail
      rw [HW.out]
      refine (HNX.out _ (below_trans HR3.out.2 (by repeat (first | exact Below.refl _ _ | (refine Below.drew ?_) | (refine below_drewN' ?_ _) | (refine below_alloc' ?_ _) | (refine Below.setCell ?_ (by first | exact Nat.le_refl _ | (simp; done) | (simp; omega)) _))))).mono ?_
      rintro e w4 ⟨rfl, hb4⟩
      have HR4 := Lib.hid (And.intro (HT.out.step _ _ _ HR3.out.1 hb4) (HR3.out.2.trans (hb4.mono HR3.out.2.size)))
      clear hb4
      go_wp2_with fail
      go_roundw
      case rel => exact ⟨j + 1, by omega, rfl, rfl, by rw [HC.out, ← List.append_assoc]; exact HR4.out.1, HR4.out.2⟩
      case measure => exact HMU.out
    · rw [frO_none hlt]
      rw [frA_none, frK_none]
      have e : (ks.map kl).take j = ks.map kl := List.take_of_length_le (by rw [List.length_map]; omega)
      rw [e] at HR
      clear hi hb e
      go_wp2_with fail
      go_ret
      exact ⟨rfl, HR.out⟩
theorem each_nd (W : World) (f : FuncId) (cap : Array Value) (N k : Nat) (Inv : List En → World → Prop) (T : Tell W f cap N Inv) (k1 : 1 ≤ k) (k16 : k ≤ 16) {b : Nat} {l : List En} (h : Nd W k b l) :
    ∀ (w : World) (d : List En), Inv d w → Below W.heap.size W w → d.length + l.length ≤ N → Calls Tryz.prog 126 #[.pointer (some ⟨b, 0, none⟩), .func (.func f) #[] cap] w fun e w' => EachP W Inv (d ++ l) e w' := by
  induction h with
  | leaf b p v h hp ho hv => exact fun w d hi hb hN => each_leaf W w f cap N k b p v Inv d T h hp k1 k16 hi hb (by simp at hN; omega)
  | node b s n pre ks h hs hkd hn ih => exact fun w d hi hb hN => each_node W w f cap N b s k ks Inv d T h.c3 hs hi hb hN ih
end Go.Proofs.YtdkomhmciihkiaaGreat
/-! Ent -/
namespace Go.Proofs.YtdkomhmciihkiaaGreat
open Go.RowKit
set_option linter.unusedVariables false

/-- the entry's two cells at block b, from o on -/
def EnAt (w : World) (b o : Nat) (e : En) : Prop :=
  ∃ v, w.cell? ⟨b, o, none⟩ = some v ∧ RdU w v (pti e.p) ∧ w.cell? ⟨b, o + 1, none⟩ = some (.int .u64 (e.v : Nat))
/-- the slice value v reads as the list l of entries -/
def RdE (w : World) (v : Value) (l : List En) : Prop :=
  ∃ A c, v = .slice A l.length c ∧ (l.length ≤ c ∧ c ≤ maxLen ∧ (0 < c → ∃ b o, A = some ⟨b, o, none⟩)) ∧ (0 < l.length → ∃ b o, A = some ⟨b, o, none⟩ ∧ ∀ j (h : j < l.length), EnAt w b (o + j * 2) l[j])
theorem EnAt.keep {w w' : World} {b o : Nat} {c : En} (h : EnAt w b o c) (hk : ∀ a x, w.cell? a = some x → w'.cell? a = some x) : EnAt w' b o c := by
  obtain ⟨v, h0, hv, h1⟩ := h
  exact ⟨v, hk _ _ h0, RdU.keep hv hk, hk _ _ h1⟩
theorem RdE.keep {w w' : World} {v : Value} {l : List En} (h : RdE w v l) (hk : ∀ a x, w.cell? a = some x → w'.cell? a = some x) : RdE w' v l := by
  obtain ⟨A, c, e, hl, h⟩ := h
  exact ⟨A, c, e, hl, fun hp => let ⟨b, o, ha, hc⟩ := h hp; ⟨b, o, ha, fun j hj => (hc j hj).keep hk⟩⟩
theorem RdE.below {w w' : World} {v : Value} {l : List En} (h : RdE w v l) (hb : Below w.heap.size w w') : RdE w' v l := RdE.keep h (Below.keeps hb)
theorem RdE.nil (w : World) (A : Option Addr) (c : Nat) (h : c ≤ maxLen) (h0 : 0 < c → ∃ b o, A = some ⟨b, o, none⟩) : RdE w (.slice A 0 c) [] := ⟨A, c, rfl, ⟨Nat.zero_le _, h, h0⟩, fun h => absurd h (by simp)⟩
/-- the cells cs hold the entries l, their points as they stand in w -/
def CellsL (w : World) : List En → List Value → Prop
  | [], cs => cs = []
  | e :: l, cs => ∃ u ds, cs = u :: .int .u64 (e.v : Nat) :: ds ∧ RdU w u (pti e.p) ∧ CellsL w l ds
def CellsE (w : World) (cs : List Value) (l : List En) : Prop := CellsL w l cs
theorem CellsE.nil (w : World) : CellsE w [] [] := rfl
theorem CellsE.length {w : World} {cs : List Value} {l : List En} (h : CellsE w cs l) : cs.length = l.length * 2 := by
  induction l generalizing cs with
  | nil => obtain rfl : cs = [] := h; rfl
  | cons e l ih => obtain ⟨u, ds, rfl, _, h⟩ := h; have := ih h; simp; omega
theorem CellsE.append {w : World} {cs ds : List Value} {l m : List En} (h : CellsE w cs l) (k : CellsE w ds m) : CellsE w (cs ++ ds) (l ++ m) := by
  induction l generalizing cs with
  | nil => obtain rfl : cs = [] := h; exact k
  | cons e l ih => obtain ⟨u, ds, rfl, hu, h⟩ := h; exact ⟨u, _, rfl, hu, ih h⟩
theorem CellsE.one {w : World} {u : Value} {p : List Nat} (v : Nat) (h : RdU w u (pti p)) : CellsE w [u, .int .u64 v] [⟨p, v⟩] := ⟨u, [], rfl, h, rfl⟩
theorem CellsE.keep {w w' : World} {cs : List Value} {l : List En} (h : CellsE w cs l) (hk : ∀ a x, w.cell? a = some x → w'.cell? a = some x) : CellsE w' cs l := by
  induction l generalizing cs with
  | nil => exact h
  | cons e l ih => obtain ⟨u, ds, rfl, hu, h⟩ := h; exact ⟨u, ds, rfl, hu.keep hk, ih h⟩
theorem CellsE.oneCell {w : World} {cs : List Value} {l : List En} (h : CellsE w cs l) : ∀ u ∈ cs, u.oneCell' = true := by
  induction l generalizing cs with
  | nil => obtain rfl : cs = [] := h; intro u hu; simp at hu
  | cons e l ih =>
    obtain ⟨u, ds, rfl, hu, h⟩ := h
    intro y hy
    rcases List.mem_cons.1 hy with rfl | hy
    · exact RdU.one' hu
    · rcases List.mem_cons.1 hy with rfl | hy
      · rfl
      · exact ih h y hy
theorem CellsE.at {w w' : World} {cs : List Value} {l : List En} (h : CellsE w cs l) (hk : ∀ a x, w.cell? a = some x → w'.cell? a = some x) {b o : Nat} (hc : ∀ j (h : j < cs.length), w'.cell? ⟨b, o + j, none⟩ = some cs[j]) :
    ∀ j (h : j < l.length), EnAt w' b (o + j * 2) l[j] := by
  induction l generalizing cs o with
  | nil => intro j hj; simp at hj
  | cons e l ih =>
    obtain ⟨u, ds, rfl, hu, h⟩ := h
    · intro j hj
      cases j with
      | zero =>
        have c0 := hc 0 (by simp)
        have c1 := hc 1 (by simp)
        simp only [List.getElem_cons_zero, List.getElem_cons_succ, Nat.add_zero] at c0 c1
        simp only [List.getElem_cons_zero, Nat.zero_mul, Nat.add_zero]
        exact ⟨u, c0, hu.keep hk, c1⟩
      | succ j =>
        have := ih h (o := o + 2) (fun i hi => by
          have := hc (i + 2) (by simpa using hi)
          simp only [List.getElem_cons_succ] at this
          rw [show o + 2 + i = o + (i + 2) by omega]; exact this) j (by simpa using hj)
        simp only [List.getElem_cons_succ]
        rw [show o + (j + 1) * 2 = o + 2 + j * 2 by omega]; exact this
/-- what is read can be laid elsewhere -/
theorem cellsE_of {w : World} {b : Nat} {l : List En} {o : Nat} (h : ∀ j (h : j < l.length), EnAt w b (o + j * 2) l[j]) : ∃ cs, CellsE w cs l ∧ ∀ j u, cs[j]? = some u → w.cell? ((⟨b, o, none⟩ : Addr).add j) = some u := by
  induction l generalizing o with
  | nil => exact ⟨[], rfl, fun j u h => by simp at h⟩
  | cons e l ih =>
    obtain ⟨cs, i1, i2⟩ := ih (o := o + 2) (fun j hj => by
      have := h (j + 1) (by simpa using hj)
      rw [show o + 2 + j * 2 = o + (j + 1) * 2 by omega]
      simpa using this)
    have h0 := h 0 (by simp)
    simp only [Nat.zero_mul, Nat.add_zero, List.getElem_cons_zero] at h0
    obtain ⟨v, c0, hv, c1⟩ := h0
    have key : ∀ (o j : Nat), (⟨b, o, none⟩ : Addr).add j = ⟨b, o + j, none⟩ := fun o j => by
      unfold Addr.add; split
      · rename_i h; subst h; rfl
      · rfl
    refine ⟨v :: .int .u64 (e.v : Nat) :: cs, ⟨v, cs, rfl, hv, i1⟩, fun j u hj => ?_⟩
    rw [key]
    match j with
    | 0 => simp at hj; subst hj; exact c0
    | 1 => simp at hj; subst hj; exact c1
    | j + 2 =>
      simp only [List.getElem?_cons_succ] at hj
      have := i2 j u hj
      rw [key] at this
      rw [show o + (j + 2) = o + 2 + j by omega]; exact this

/-- v is a row of the call's own (the call began in W) that holds the entries l -/
def OwnE (W w : World) (v : Value) (l : List En) : Prop := ∃ cs, w.ownsRow W.heap.size 35 2 v l.length cs ∧ CellsE W cs l
theorem OwnE.rd {W w : World} {v : Value} {l : List En} (h : OwnE W w v l) (hb : Below W.heap.size W w) : RdE w v l := by
  obtain ⟨cs, ho, hc⟩ := h
  obtain ⟨h1, h2⟩ := ho
  rcases h2 with ⟨rfl, h0⟩ | ⟨g, cap, cur, rfl, hg, hh, hcap, hm, hs, ht⟩
  · exact ⟨none, 0, by rw [h0], ⟨by omega, Nat.zero_le _, fun h => absurd h (by omega)⟩, fun hp => absurd hp (by omega)⟩
  · refine ⟨_, _, rfl, ⟨hcap, hm, fun h => ⟨g, 0, rfl⟩⟩, fun hp => ⟨g, 0, rfl, hc.at (Below.keeps hb) fun j hj => ?_⟩⟩
    have h3 : cs[j]? = some cs[j] := List.getElem?_eq_getElem hj
    have h4 : j < l.length * 2 := by omega
    rw [← h3, ← ht, List.getElem?_take_of_lt h4, World.cell?]
    simp only [hh, Nat.zero_add]
    simp
theorem OwnE.nil (W w : World) : OwnE W w (.slice none 0 0) [] := ⟨[], World.ownsRow_nil _ _ _ _, rfl⟩
theorem entryInfo : (Tryz.prog.info? 35).map (fun i => (i.zero, i.size, i.bytes)) = some (some (.agg #[.slice none 0 0, .int .u64 0]), 2, 32) := by kernel_rfl
/-- entries to be appended -/
def SrcE (W w : World) (x : Value) (m : List En) : Prop := ∃ cs, CellsE W cs m ∧ Src w 2 m.length x cs
theorem RdE.src {W w : World} {x : Value} {m : List En} (h : RdE W x m) (hb : Below W.heap.size W w) : SrcE W w x m := by
  obtain ⟨A, c, rfl, hcap, hm⟩ := h
  by_cases h0 : 0 < m.length
  · obtain ⟨b, o, rfl, hc⟩ := hm h0
    obtain ⟨cs, c1, c2⟩ := cellsE_of hc
    exact ⟨cs, c1, c1.length, c1.oneCell, _, c, rfl, (fun h => by cases h), fun ad had j u hj => by injection had with had; subst had; exact Below.keeps hb _ _ (c2 j u hj)⟩
  · obtain rfl : m = [] := List.eq_nil_of_length_eq_zero (by omega)
    have hA0 : A = none → c = 0 := fun h => by
      by_cases hc : 0 < c
      · obtain ⟨b, o, e⟩ := hcap.2.2 hc
        rw [h] at e; cases e
      · omega
    exact ⟨[], rfl, by simp, fun u hu => by simp at hu, A, c, rfl, fun h => ⟨rfl, hA0 h⟩, fun ad had j u hj => by simp at hj⟩
theorem SrcE.one {W w : World} {b c : Nat} {u : Value} {p : List Nat} {v : Nat} (h0 : w.cell? ⟨b, 0, none⟩ = some u) (hu : RdU W u (pti p)) (h1 : w.cell? ⟨b, 1, none⟩ = some (.int .u64 v)) : SrcE W w (.slice (some ⟨b, 0, none⟩) 1 c) [⟨p, v⟩] :=
  ⟨[u, .int .u64 v], CellsE.one v hu, rfl, (CellsE.one v hu).oneCell, _, c, rfl, (fun h => by cases h), fun ad had j x hj => by
    injection had with had; subst had
    match j with
    | 0 => simp at hj; subst hj; simpa [Addr.add] using h0
    | 1 => simp at hj; subst hj; simpa [Addr.add] using h1
    | j + 2 => simp at hj⟩
/-- reslicing -/
theorem cut_addr {A : Option Addr} {b o k c s : Nat} (h : A = some ⟨b, o, none⟩) (hk : k < c) : (if c = k then A else A.map (·.add (k * s))) = some ⟨b, o + k * s, none⟩ := by
  rw [if_neg (by omega), h]
  simp only [Option.map_some, Addr.add]
  split
  · rename_i h0; rw [h0]; rfl
  · rfl
theorem RdE.drop {w : World} {A : Option Addr} {c : Nat} {l : List En} (h : RdE w (.slice A l.length c) l) (k : Nat) (hk : k ≤ l.length) :
    RdE w (.slice (if c = k then A else A.map (·.add (k * 2))) (l.length - k) (c - k)) (l.drop k) := by
  obtain ⟨A', c', e, ⟨h1, h2, h3⟩, hm⟩ := h
  injection e with e1 _ e2
  subst e1 e2
  refine ⟨_, _, by rw [List.length_drop], ⟨by rw [List.length_drop]; omega, by omega, fun h => ?_⟩, fun hp => ?_⟩
  · obtain ⟨b, o, ha⟩ := h3 (by omega)
    exact ⟨b, o + k * 2, cut_addr ha (by omega)⟩
  · rw [List.length_drop] at hp
    obtain ⟨b, o, ha, hc⟩ := hm (by omega)
    refine ⟨b, o + k * 2, cut_addr ha (by omega), fun j hj => ?_⟩
    rw [List.length_drop] at hj
    have := hc (k + j) (by omega)
    rw [List.getElem_drop, show o + k * 2 + j * 2 = o + (k + j) * 2 by omega]
    exact this
theorem RdE.take {w : World} {A : Option Addr} {c : Nat} {l : List En} (h : RdE w (.slice A l.length c) l) (k : Nat) (hk : k ≤ l.length) : RdE w (.slice A k c) (l.take k) := by
  obtain ⟨A', c', e, ⟨h1, h2, h3⟩, hm⟩ := h
  injection e with e1 _ e2
  subst e1 e2
  refine ⟨A, c, by rw [List.length_take, Nat.min_eq_left hk], ⟨by rw [List.length_take]; omega, h2, h3⟩, fun hp => ?_⟩
  rw [List.length_take] at hp
  obtain ⟨b, o, ha, hc⟩ := hm (by omega)
  refine ⟨b, o, ha, fun j hj => ?_⟩
  rw [List.length_take] at hj
  have := hc j (by omega)
  rw [List.getElem_take]
  exact this

theorem run_append_E (W w : World) (v x : Value) (l m : List En) (hown : OwnE W w v l) (hx : SrcE W w x m) (hb : Below W.heap.size W w) (hlen : l.length + m.length ≤ 100000) (ty : TypeId) :
    ∃ v' w', (Builtin.append_ #[44, 44] ty #[v, x]).run Tryz.prog w = .ok v' w' ∧ OwnE W w' v' (l ++ m) ∧ Below W.heap.size W w' := by
  obtain ⟨cs, ho, hc⟩ := hown
  obtain ⟨ds, hd, hx⟩ := hx
  obtain ⟨v', w', a1, a2, a3⟩ := run_append_src (P := Tryz.prog) w W.heap.size 44 ty 35 _ 2 32 Tryz.underlying44 entryInfo rfl (by omega) v l.length cs ho x m.length ds hx (by simp only [maxLen]; omega) (by omega) hb.size
  exact ⟨v', w', a1, ⟨_, by rw [List.length_append]; exact a2, hc.append hd⟩, hb.grown a3 hb.size (ownBlock_base ho)⟩
theorem wpList_append_E {w : World} {ops : Array Oper} {rest : List Oper} {o : Oper} {a : Act} {Q : Exit → Act → World → Prop} (hgd : o.guard = none) (s x : Operand)
    (ho : o.op = .call { callee := .builtin .append, args := #[s, x], argTypes := #[44, 44] }) (W : World) (l m : List En)
    (hown : OwnE W w (a.eval s) l) (hx : SrcE W w (a.eval x) m) (hb : Below W.heap.size W w) (hlen : l.length + m.length ≤ 100000)
    (h : ∀ v' w', OwnE W w' v' (l ++ m) → Below W.heap.size W w' → wpList Tryz.prog ops Q rest (a.put o.dst v') w') : wpList Tryz.prog ops Q (o :: rest) a w := by
  refine wpList_plain hgd fun K hK => ?_
  obtain ⟨v', w', hrun, r1, r2⟩ := run_append_E W w _ _ l m hown hx hb hlen o.type
  unfold Oper.wp
  simp [execOp, ho, resolve, invoke, builtin, hrun, Result.andThen]
  exact hK _ _ (h v' w' r1 r2)
theorem OwnE.alloc {W w : World} {v : Value} {l : List En} (h : OwnE W w v l) (o : Obj) : OwnE W (w.alloc o) v l := let ⟨cs, h1, h2⟩ := h; ⟨cs, h1.alloc o, h2⟩
theorem OwnE.drew {W w : World} {v : Value} {l : List En} (h : OwnE W w v l) : OwnE W w.drew v l := h
theorem OwnE.drewN {W w : World} {v : Value} {l : List En} (h : OwnE W w v l) (n : Nat) : OwnE W (w.drewN n) v l := h
theorem OwnE.lit {W w : World} (hb : W.heap.size ≤ w.heap.size) {g : Nat} (hg : g = w.heap.size) : OwnE W (w.alloc (.cells #[] 35)) (.slice (some ⟨g, 0, none⟩) 0 0) [] := by
  subst hg; exact ⟨[], World.ownsRow_lit w #[] 0 hb (by simp [maxLen]) (by simp), rfl⟩
theorem OwnE.below {W w w' : World} {v : Value} {l : List En} (h : OwnE W w v l) (hb : Below w.heap.size w w') : OwnE W w' v l := by
  obtain ⟨cs, ⟨h1, h2⟩, h3⟩ := h
  refine ⟨cs, ⟨h1, ?_⟩, h3⟩
  rcases h2 with h2 | ⟨g, cap, cur, q1, q2, q3, q4⟩
  · exact .inl h2
  · exact .inr ⟨g, cap, cur, q1, q2, (hb.block g (Array.getElem?_eq_some_iff.1 q3).1).trans q3, q4⟩
end Go.Proofs.YtdkomhmciihkiaaGreat
/-! EntD -/
namespace Go.Proofs.YtdkomhmciihkiaaGreat
open Go.RowKit
set_option linter.unusedVariables false

/-- the cells cs hold the entries l, Pt saying what a point's value reads as -/
def CellsD (Pt : Value → List Nat → Prop) : List En → List Value → Prop
  | [], cs => cs = []
  | e :: l, cs => ∃ u ds, cs = u :: .int .u64 (e.v : Nat) :: ds ∧ Pt u e.p ∧ CellsD Pt l ds
theorem CellsD.length {Pt : Value → List Nat → Prop} {cs : List Value} {l : List En} (h : CellsD Pt l cs) : cs.length = l.length * 2 := by
  induction l generalizing cs with
  | nil => obtain rfl : cs = [] := h; rfl
  | cons e l ih => obtain ⟨u, ds, rfl, _, h⟩ := h; have := ih h; simp; omega
theorem CellsD.append {Pt : Value → List Nat → Prop} {cs ds : List Value} {l m : List En} (h : CellsD Pt l cs) (k : CellsD Pt m ds) : CellsD Pt (l ++ m) (cs ++ ds) := by
  induction l generalizing cs with
  | nil => obtain rfl : cs = [] := h; exact k
  | cons e l ih => obtain ⟨u, ds, rfl, hu, h⟩ := h; exact ⟨u, _, rfl, hu, ih h⟩
theorem CellsD.mono {Pt Qt : Value → List Nat → Prop} {cs : List Value} {l : List En} (h : CellsD Pt l cs) (hk : ∀ u p, Pt u p → Qt u p) : CellsD Qt l cs := by
  induction l generalizing cs with
  | nil => exact h
  | cons e l ih => obtain ⟨u, ds, rfl, hu, h⟩ := h; exact ⟨u, ds, rfl, hk _ _ hu, ih h⟩
theorem CellsD.oneCell {Pt : Value → List Nat → Prop} {w : World} (hp : ∀ u p, Pt u p → RdU w u (pti p)) {cs : List Value} {l : List En} (h : CellsD Pt l cs) : ∀ u ∈ cs, u.oneCell' = true := by
  induction l generalizing cs with
  | nil => obtain rfl : cs = [] := h; intro u hu; simp at hu
  | cons e l ih =>
    obtain ⟨u, ds, rfl, hu, h⟩ := h
    intro y hy
    simp only [List.mem_cons] at hy
    rcases hy with rfl | rfl | hy
    · exact RdU.one' (hp _ _ hu)
    · rfl
    · exact ih h y hy
theorem CellsD.get {Pt : Value → List Nat → Prop} {cs : List Value} {l : List En} (h : CellsD Pt l cs) :
    ∀ j (h : j < l.length), ∃ u, cs[j * 2]? = some u ∧ Pt u l[j].p ∧ cs[j * 2 + 1]? = some (.int .u64 (l[j].v : Nat)) := by
  induction l generalizing cs with
  | nil => intro j hj; simp at hj
  | cons e l ih =>
    obtain ⟨u, ds, rfl, hu, h⟩ := h
    intro j hj
    cases j with
    | zero => exact ⟨u, by simp, hu, by simp⟩
    | succ j =>
      obtain ⟨u', h1, h2, h3⟩ := ih h j (by simpa using hj)
      refine ⟨u', ?_, by simpa using h2, ?_⟩
      · rw [show (j + 1) * 2 = j * 2 + 1 + 1 by omega]; simpa using h1
      · rw [show (j + 1) * 2 + 1 = j * 2 + 1 + 1 + 1 by omega]; simpa using h3
/-- v is a row of the call's own (the call began in W) that holds the entries l -/
def OwnD (Pt : Value → List Nat → Prop) (W w : World) (v : Value) (l : List En) : Prop := ∃ cs, w.ownsRow W.heap.size 35 2 v l.length cs ∧ CellsD Pt l cs
theorem OwnD.nil (Pt : Value → List Nat → Prop) (W w : World) : OwnD Pt W w (.slice none 0 0) [] := ⟨[], World.ownsRow_nil _ _ _ _, rfl⟩
theorem OwnD.mono {Pt Qt : Value → List Nat → Prop} {W w : World} {v : Value} {l : List En} (h : OwnD Pt W w v l) (hk : ∀ u p, Pt u p → Qt u p) : OwnD Qt W w v l := let ⟨cs, h1, h2⟩ := h; ⟨cs, h1, h2.mono hk⟩
theorem OwnD.alloc {Pt : Value → List Nat → Prop} {W w : World} {v : Value} {l : List En} (h : OwnD Pt W w v l) (o : Obj) : OwnD Pt W (w.alloc o) v l := let ⟨cs, h1, h2⟩ := h; ⟨cs, h1.alloc o, h2⟩
theorem OwnD.below {Pt : Value → List Nat → Prop} {W w w' : World} {v : Value} {l : List En} (h : OwnD Pt W w v l) (hb : Below w.heap.size w w') : OwnD Pt W w' v l := by
  obtain ⟨cs, ⟨h1, h2⟩, h3⟩ := h
  refine ⟨cs, ⟨h1, ?_⟩, h3⟩
  rcases h2 with h2 | ⟨g, cap, cur, q1, q2, q3, q4⟩
  · exact .inl h2
  · exact .inr ⟨g, cap, cur, q1, q2, (hb.block g (Array.getElem?_eq_some_iff.1 q3).1).trans q3, q4⟩
theorem OwnD.shape {Pt : Value → List Nat → Prop} {W w : World} {v : Value} {l : List En} (h : OwnD Pt W w v l) : ∃ A c, v = .slice A l.length c := by
  obtain ⟨cs, ⟨h1, h2⟩, h3⟩ := h
  rcases h2 with ⟨rfl, h0⟩ | ⟨g, cap, cur, rfl, _⟩
  · exact ⟨_, _, by rw [h0]⟩
  · exact ⟨_, _, rfl⟩
/-- a row that is not empty: its block -/
theorem OwnD.cells {Pt : Value → List Nat → Prop} {W w : World} {v : Value} {l : List En} (h : OwnD Pt W w v l) (hne : l ≠ []) :
    ∃ g cap cur, v = .slice (some ⟨g, 0, none⟩) l.length cap ∧ W.heap.size ≤ g ∧ w.heap[g]? = some (.cells cur 35 (0, 0)) ∧ l.length ≤ cap ∧ cap ≤ maxLen ∧ cur.size = cap * 2 ∧
      ∀ j (h : j < l.length), ∃ u, cur[j * 2]? = some u ∧ Pt u l[j].p ∧ cur[j * 2 + 1]? = some (.int .u64 (l[j].v : Nat)) := by
  have hpos := List.length_pos_iff.2 hne
  obtain ⟨cs, ⟨h1, h2⟩, h3⟩ := h
  rcases h2 with ⟨rfl, h0⟩ | ⟨g, cap, cur, rfl, q2, q3, q4, q5, q6, q7⟩
  · exact absurd hpos (by omega)
  · refine ⟨g, cap, cur, rfl, q2, q3, q4, q5, q6, fun j hj => ?_⟩
    obtain ⟨u, r1, r2, r3⟩ := h3.get j hj
    rw [← q7, List.getElem?_take_of_lt (by omega)] at r1 r3
    exact ⟨u, by simpa using r1, r2, by simpa using r3⟩
theorem OwnD.rd {Pt : Value → List Nat → Prop} {W w : World} {v : Value} {l : List En} (h : OwnD Pt W w v l) (hp : ∀ u p, Pt u p → RdU w u (pti p)) : RdE w v l := by
  by_cases hne : l = []
  · subst hne
    obtain ⟨cs, ⟨h1, h2⟩, h3⟩ := h
    rcases h2 with ⟨rfl, h0⟩ | ⟨g, cap, cur, rfl, q2, q3, q4, q5, q6, q7⟩
    · exact RdE.nil _ _ _ (Nat.zero_le _) fun h => absurd h (by omega)
    · exact RdE.nil _ _ _ q5 fun _ => ⟨_, _, rfl⟩
  · obtain ⟨g, cap, cur, rfl, q2, q3, q4, q5, q6, q7⟩ := h.cells hne
    refine ⟨_, _, rfl, ⟨q4, q5, fun _ => ⟨_, _, rfl⟩⟩, fun _ => ⟨g, 0, rfl, fun j hj => ?_⟩⟩
    obtain ⟨u, r1, r2, r3⟩ := q7 j hj
    exact ⟨u, by simp [World.cell?, q3, r1], hp _ _ r2, by simp [World.cell?, q3, r3]⟩
/-- the own block is a row of entries -/
theorem OwnD.block {Pt : Value → List Nat → Prop} {W w : World} {v : Value} {l : List En} (h : OwnD Pt W w v l) : ∀ k, v.ownBlock = some k → W.heap.size ≤ k ∧ ∃ cur, w.heap[k]? = some (.cells cur 35 (0, 0)) := by
  obtain ⟨cs, ⟨h1, h2⟩, h3⟩ := h
  intro k hk
  rcases h2 with ⟨rfl, _⟩ | ⟨g, cap, cur, rfl, q2, q3, q4⟩
  · cases hk
  · injection hk with hk; subst hk; exact ⟨q2, cur, q3⟩
/-- one entry to be appended -/
def SrcD (Pt : Value → List Nat → Prop) (w : World) (x : Value) (e : En) : Prop :=
  ∃ b cc u, x = .slice (some ⟨b, 0, none⟩) 1 cc ∧ w.cell? ⟨b, 0, none⟩ = some u ∧ Pt u e.p ∧ w.cell? ⟨b, 1, none⟩ = some (.int .u64 (e.v : Nat))
theorem run_append_D {Pt : Value → List Nat → Prop} (W w : World) (hp : ∀ u p, Pt u p → RdU w u (pti p)) (v x : Value) (l : List En) (e : En) (hown : OwnD Pt W w v l) (hx : SrcD Pt w x e) (hb : W.heap.size ≤ w.heap.size) (hlen : l.length ≤ 100000) (ty : TypeId) :
    ∃ v' w', (Builtin.append_ #[44, 44] ty #[v, x]).run Tryz.prog w = .ok v' w' ∧ OwnD Pt W w' v' (l ++ [e]) ∧ w.grownBy w' v.ownBlock := by
  obtain ⟨cs, ho, hc⟩ := hown
  obtain ⟨b, cc, u, rfl, k0, ku, k1⟩ := hx
  have hn : CellsD Pt [e] [u, .int .u64 (e.v : Nat)] := ⟨u, [], rfl, ku, rfl⟩
  obtain ⟨v', w', a1, a2, a3⟩ := run_append_src (P := Tryz.prog) w W.heap.size 44 ty 35 _ 2 32 Tryz.underlying44 entryInfo rfl (by omega) v l.length cs ho (.slice (some ⟨b, 0, none⟩) 1 cc) 1 [u, .int .u64 (e.v : Nat)]
    ⟨rfl, hn.oneCell hp, _, cc, rfl, (fun h => by cases h), fun ad had j x hj => by
      injection had with had; subst had
      match j with
      | 0 => simp at hj; subst hj; simpa [Addr.add] using k0
      | 1 => simp at hj; subst hj; simpa [Addr.add] using k1
      | j + 2 => simp at hj⟩ (by simp only [maxLen]; omega) (by omega) hb
  exact ⟨v', w', a1, ⟨_, by rw [List.length_append]; exact a2, hc.append hn⟩, a3⟩
theorem wpList_append_D {Pt : Value → List Nat → Prop} {w : World} {ops : Array Oper} {rest : List Oper} {o : Oper} {a : Act} {Q : Exit → Act → World → Prop} (hgd : o.guard = none) (s x : Operand)
    (ho : o.op = .call { callee := .builtin .append, args := #[s, x], argTypes := #[44, 44] }) (W : World) (l : List En) (e : En)
    (hp : ∀ u p, Pt u p → RdU w u (pti p)) (hown : OwnD Pt W w (a.eval s) l) (hx : SrcD Pt w (a.eval x) e) (hb : W.heap.size ≤ w.heap.size) (hlen : l.length ≤ 100000)
    (h : ∀ v' w', OwnD Pt W w' v' (l ++ [e]) → w.grownBy w' (a.eval s).ownBlock → wpList Tryz.prog ops Q rest (a.put o.dst v') w') : wpList Tryz.prog ops Q (o :: rest) a w := by
  refine wpList_plain hgd fun K hK => ?_
  obtain ⟨v', w', hrun, r1, r2⟩ := run_append_D W w hp _ _ l e hown hx hb hlen o.type
  unfold Oper.wp
  simp [execOp, ho, resolve, invoke, builtin, hrun, Result.andThen]
  exact hK _ _ (h v' w' r1 r2)
theorem OwnD.grown {Pt : Value → List Nat → Prop} {W w w' : World} {v : Value} {l : List En} (h : OwnD Pt W w v l) (hb : Below W.heap.size W w) (hg : w.grownBy w' v.ownBlock) : Below W.heap.size W w' :=
  hb.grown hg hb.size fun k hk => (h.block k hk).1
/-- a point in a row of numbers stays when a row of entries grows -/
theorem PtNew.grownD {Pt : Value → List Nat → Prop} {W w w' : World} {v : Value} {l : List En} (ho : OwnD Pt W w v l) (hg : w.grownBy w' v.ownBlock) : ∀ u p, PtNew w u p → PtNew w' u p := fun u p h =>
  h.keepBlock fun b cur fr hb => hg.block _ (lt_of_block hb) fun e => by
    obtain ⟨_, c2, h2⟩ := ho.block _ e.symm
    rw [hb] at h2
    injection h2 with h2
    injection h2 with _ h2 _
    revert h2; decide
end Go.Proofs.YtdkomhmciihkiaaGreat
/-! Pairs -/
namespace Go.Proofs.YtdkomhmciihkiaaGreat
open Go.RowKit
set_option linter.unusedVariables false
set_option linter.unusedSimpArgs false

theorem enters_func {P : Program} {f : FuncId} {fn : Func} (hf : P.funcs[f]? = some fn) (hname : (fn.name == "runtime.NumGoroutine") = false) (hb : fn.body.isSome = true) (args : Array Value) (w : World) :
    (callFunc f args).run P w = .ok (.enter f args) w := by
  have h1 : fn.name ≠ "runtime.NumGoroutine" := by simpa using hname
  obtain ⟨c, hc⟩ := Option.isSome_iff_exists.1 hb
  simp [callFunc, hf, h1, hc]
/-- at the label: so much is done -/
structure PairsAt (W : World) (T : Option Ch × Option Ch → Bool) (Inv : List (Option Ch × Option Ch) → World → Prop) (a b : List Ch) (wa wb : Value) (n : Nat) (la lb : List Ch) (d : List (Option Ch × Option Ch)) (w' : World) : Prop where
  ra : RdC W wa la ∧ CapOk wa
  rb : RdC W wb lb ∧ CapOk wb
  le : la.length + lb.length ≤ n
  eq' : pairs a b = d ++ pairsL n la lb
  all : d.all T = true
  inv : Inv d w'
  bel : Below W.heap.size W w'
  sa : ∀ x ∈ la, x ∈ a
  sb : ∀ y ∈ lb, y ∈ b
  len : d.length + (la.length + lb.length) ≤ a.length + b.length

section
variable {W w' : World} {T : Option Ch × Option Ch → Bool} {Inv : List (Option Ch × Option Ch) → World → Prop} {a b ta tb : List Ch} {x y : Ch} {wa wb : Value} {n : Nat} {d : List (Option Ch × Option Ch)}
theorem PairsAt.done (h : PairsAt W T Inv a b wa wb n [] [] d w') : pairs a b = d := by
  have := h.eq'
  cases n <;> simpa [pairsL] using this
theorem PairsAt.lt (h : PairsAt W T Inv a b wa wb n (x :: ta) (y :: tb) d w') (hz : Zb.cmp x.p y.p < 0) : ∃ m, ta.length + (tb.length + 1) ≤ m ∧ pairs a b = d ++ (some x, none) :: pairsL m ta (y :: tb) := by
  have := h.eq'
  have hle := h.le
  cases n with
  | zero => simp at hle
  | succ m => exact ⟨m, by simp at hle; omega, by rw [this, pairsL, if_pos hz]⟩
theorem PairsAt.gt (h : PairsAt W T Inv a b wa wb n (x :: ta) (y :: tb) d w') (hz : ¬ Zb.cmp x.p y.p < 0) (hz2 : 0 < Zb.cmp x.p y.p) : ∃ m, ta.length + 1 + tb.length ≤ m ∧ pairs a b = d ++ (none, some y) :: pairsL m (x :: ta) tb := by
  have := h.eq'
  have hle := h.le
  cases n with
  | zero => simp at hle
  | succ m => exact ⟨m, by simp at hle; omega, by rw [this, pairsL, if_neg hz, if_pos hz2]⟩
end
end Go.Proofs.YtdkomhmciihkiaaGreat
/-! WlkB -/
namespace Go.Proofs.YtdkomhmciihkiaaGreat
open Go.RowKit
set_option linter.unusedVariables false
set_option linter.unusedSimpArgs false
set_option maxRecDepth 100000

/-- so much has been gathered in the captured variable -/
def InvD (W : World) (B : Nat) (o : List En) (w : World) : Prop :=
  ∃ vo, w.heap[B]? = some (.cells #[vo] 44 (0, 0)) ∧ OwnD (PtNew w) W w vo o ∧ Below W.heap.size W w
theorem InvD.bel {W w : World} {B : Nat} {o : List En} (h : InvD W B o w) : Below W.heap.size W w := let ⟨_, _, _, h⟩ := h; h
theorem InvD.below {W w w' : World} {B : Nat} {o : List En} (h : InvD W B o w) (hb : Below w.heap.size w w') : InvD W B o w' :=
  let ⟨vo, h1, h2, h3⟩ := h
  ⟨vo, (hb.block B (lt_of_block h1)).trans h1, (h2.below hb).mono fun u p h => h.below hb, h3.trans (hb.mono h3.size)⟩
theorem InvD.push {W w3 w4 : World} {B : Nat} {vo v' : Value} {o o' : List En} (hB : W.heap.size ≤ B) (hblk : w3.heap[B]? = some (.cells #[vo] 44 (0, 0))) (hown : OwnD (PtNew w3) W w3 vo o) (hb : Below W.heap.size W w3)
    (hown' : OwnD (PtNew w3) W w4 v' o') (hg : w3.grownBy w4 vo.ownBlock) : w4.heap[B]? = some (.cells #[vo] 44 (0, 0)) ∧ InvD W B o' (w4.setCell ⟨B, 0, none⟩ v') := by
  have hneB : some B ≠ vo.ownBlock := by
    intro e
    obtain ⟨_, cur, hc⟩ := hown.block B e.symm
    rw [hblk] at hc
    injection hc with hc
    injection hc with _ hc _
    exact absurd hc (by decide)
  have h4 : w4.heap[B]? = some (.cells #[vo] 44 (0, 0)) := (hg.block B (lt_of_block hblk) hneB).trans hblk
  have hneB' : v'.ownBlock ≠ some B := by
    intro e
    obtain ⟨_, cur, hc⟩ := hown'.block B e
    rw [h4] at hc
    injection hc with hc
    injection hc with _ hc _
    exact absurd hc (by decide)
  refine ⟨h4, v', one_setCell h4, ?_, ?_⟩
  · obtain ⟨cs, ho, hc⟩ := hown'
    refine ⟨cs, ownsRow_setCell_other ho hneB' _, hc.mono fun u p hp => ?_⟩
    have hp4 : PtNew w4 u p := PtNew.grownD hown hg u p hp
    exact hp4.keepBlock fun b cur fr hbk => by
      refine Below.heap_setCell _ _ _ _ ?_
      intro e
      have e' : b = B := e
      rw [e', h4] at hbk
      injection hbk with hbk
      injection hbk with _ hbk _
      exact absurd hbk (by decide)
  · exact (hb.grown hg hb.size fun k hk => (hown.block k hk).1).setCell hB _
set_option maxHeartbeats 1000000 in
theorem allTell (W w : World) (B : Nat) (o : List En) (e : En) (u : Value) (hW : W.heap.size ≤ B) (hi : InvD W B o w) (hu : PtNew w u e.p) (hol : o.length ≤ 10000) :
    Calls Tryz.prog 127 (#[.agg #[u, .int .u64 (e.v : Nat)]] ++ #[.pointer (some ⟨B, 0, none⟩)]) w fun r w' => r = .returned (.bool true) ∧ InvD W B (o ++ [e]) w' ∧ Below W.heap.size W w' := by
  obtain ⟨vo, hblk, hown, hbW⟩ := hi
  have kb := cell_of_one hblk
  have hlB := lt_of_block hblk
  have HI := Lib.hid (And.intro hblk (And.intro hown (And.intro hbW (And.intro hW (And.intro hol hu)))))
  obtain ⟨Au, cu, rfl, _⟩ := RdU.point hu.rd
  obtain ⟨Ao, co, rfl⟩ := hown.shape
  obtain ⟨p, x⟩ := e
  clear hblk hown hbW hW hol hu
  show Calls Tryz.prog 127 #[.agg #[.slice Au p.length cu, .int .u64 (x : Nat)], .pointer (some ⟨B, 0, none⟩)] w _
  go_enter Tryz.func127, Tryz.ntmps127
  go_wp2_with ((at_builtin; refine wpList_append_D (Pt := PtNew w) rfl (.tmp 4) (.tmp 6) rfl W o ⟨p, x⟩ ?_ ?_ ?_ ?_ ?_ ?_))
  · exact fun u p h => h.rd.below (by repeat (first | exact Below.refl _ _ | (refine Below.drew ?_) | (refine below_drewN' ?_ _) | (refine below_alloc' ?_ _) | (refine Below.setCell ?_ (by first | exact Nat.le_refl _ | (simp; done) | (simp; omega)) _)))
  · exact HI.out.2.1.below (by repeat (first | exact Below.refl _ _ | (refine Below.drew ?_) | (refine below_drewN' ?_ _) | (refine below_alloc' ?_ _) | (refine Below.setCell ?_ (by first | exact Nat.le_refl _ | (simp; done) | (simp; omega)) _)))
  · exact ⟨_, _, _, rfl, by simp [go_sem], HI.out.2.2.2.2.2, by simp [go_sem]⟩
  · have := HI.out.2.2.1.size; simp; omega
  · have := HI.out.2.2.2.2.1; omega
  intro v' w4 hown4 hg4
  obtain ⟨A4, c4, rfl⟩ := hown4.shape
  have hbe : Below w.heap.size w ((w.alloc (.cells #[.slice Au p.length cu, .int .u64 (x : Nat)] 35)).alloc (.cells #[.slice Au p.length cu, .int .u64 (x : Nat)] 35)) := (by repeat (first | exact Below.refl _ _ | (refine Below.drew ?_) | (refine below_drewN' ?_ _) | (refine below_alloc' ?_ _) | (refine Below.setCell ?_ (by first | exact Nat.le_refl _ | (simp; done) | (simp; omega)) _)))
  obtain ⟨hb6, hI6⟩ := InvD.push HI.out.2.2.2.1 ((hbe.block B hlB).trans HI.out.1) ((HI.out.2.1.below hbe).mono fun u p h => h.below hbe) (HI.out.2.2.1.trans (hbe.mono HI.out.2.2.1.size)) (hown4.mono fun u p h => h.below hbe) hg4
  have c6 := cell_of_one hb6
  have f6 := free_of_one hb6
  have hl6 := lt_of_block hb6
  have HI6 := Lib.hid hI6
  clear hown4 hg4 hb6 hI6 hbe kb hlB
  go_wp2_with fail
  go_ret
  exact ⟨rfl, by simpa using HI6.out, by simpa using HI6.out.bel⟩
theorem allFn (W : World) (B N : Nat) (hW : W.heap.size ≤ B) (hN : N ≤ 10000) : Tell W 127 #[.pointer (some ⟨B, 0, none⟩)] N (InvD W B) :=
  ⟨enters_func (Tryz.func127) (by kernel_rfl) (by kernel_rfl), fun d e u w' hd hi hb hu => allTell W w' B d e u hW hi hu (by omega), fun d w' w'' h hb => h.below hb⟩
def AllP (W : World) (l : List En) (e : Ending) (w' : World) : Prop := ∃ v, e = .returned v ∧ OwnD (PtNew w') W w' v l ∧ Below W.heap.size W w'
theorem wall_any (w : World) (k : Nat) (r : Option Nat) (l : List En) (hr : RtN w k r l) (k1 : 1 ≤ k) (k16 : k ≤ 16) (hl : l.length ≤ 10000) : Calls Tryz.prog 67 #[pv r] w fun e w' => AllP w l e w' := by
  have HE := Lib.hid (show ∀ w', InvD w w.heap.size [] w' → Calls Tryz.prog 126 #[pv r, .func (.func 127) #[] #[.pointer (some ⟨w.heap.size, 0, none⟩)]] w' fun e w'' => EachP w (InvD w w.heap.size) l e w'' from fun w' hi => by
    cases r with
    | none =>
      obtain rfl : l = [] := hr
      exact (each_nil w' _ _).mono fun e w'' ⟨h1, h2⟩ => ⟨h1, h2 ▸ hi, h2 ▸ hi.bel⟩
    | some b => exact each_nd w _ _ l.length k _ (allFn w _ l.length (Nat.le_refl _) hl) k1 k16 hr w' [] hi hi.bel (by simp))
  have H0 := Lib.hid (show InvD w w.heap.size [] (w.alloc (.cells #[.slice none 0 0] 44)) from ⟨_, alloc_blk _ _, OwnD.nil _ _ _, (by repeat (first | exact Below.refl _ _ | (refine Below.drew ?_) | (refine below_drewN' ?_ _) | (refine below_alloc' ?_ _) | (refine Below.setCell ?_ (by first | exact Nat.le_refl _ | (simp; done) | (simp; omega)) _)))⟩)
  obtain ⟨q, hq⟩ := pv_ex r
  rw [hq] at HE ⊢
  clear hr hl hq k1 k16
  go_enter Tryz.func67, Tryz.ntmps67
  go_wp2_with fail
  refine (HE.out _ H0.out).mono ?_
  rintro e w1 ⟨rfl, ⟨vo, hblk, hown, hb⟩, _⟩
  have HF := Lib.hid (And.intro hown hb)
  have kb := cell_of_one hblk
  have hl := lt_of_block hblk
  clear hown hb hblk H0
  go_wp2_with fail
  go_ret
  exact ⟨_, rfl, HF.out⟩
end Go.Proofs.YtdkomhmciihkiaaGreat
/-! TrC -/
namespace Go.Proofs.YtdkomhmciihkiaaGreat
open Go.RowKit
set_option linter.unusedVariables false
set_option linter.unusedSimpArgs false

theorem Nd.cov_none {w : World} {k b : Nat} {l : List En} {p : List Nat} (h : Nd w k b l) (hp : p.length = k) (ho : ∀ c ∈ p, c < 2 ^ 64) (hc : cov l p = false) : ∀ e ∈ l, e.key ≠ pkey p := by
  intro e he hk
  have h1 := h.cut e he
  rw [key_pt h.et hp ho he hk] at h1
  unfold cov at hc
  rw [h1] at hc
  simp at hc
theorem getE_one (p : List Nat) (x : Nat) : getE [⟨p, x⟩] p = some x := by
  unfold getE; rw [Od.look_cons, if_pos (show (⟨p, x⟩ : En).key = pkey p from rfl)]; rfl
theorem ins_one (p : List Nat) (x v : Nat) : insE p v [⟨p, x⟩] = [⟨p, v⟩] := by
  unfold insE Od.ins
  simp [En.key]
theorem del_one (p : List Nat) (x : Nat) : delE p [⟨p, x⟩] = [] := by
  unfold delE Od.del
  simp [En.key]
theorem ins_same {k : Nat} {l : List En} {p : List Nat} {v : Nat} (h : Et k l) (hp : p.length = k) (ho : ∀ c ∈ p, c < 2 ^ 64) (hg : getE l p = some v) : insE p v l = l := by
  refine (h.ins v hp ho).ext h fun e => ?_
  rw [h.mem_ins]
  have hmem : (⟨p, v⟩ : En) ∈ l := by
    unfold getE at hg
    cases e1 : Od.look En.key l (pkey p) with
    | none => rw [e1] at hg; simp at hg
    | some y =>
      rw [e1] at hg
      obtain ⟨h1, h2⟩ := Od.look_some e1
      have hv : y.v = v := by simpa using hg
      rw [← hv, ← key_pt h hp ho h1 h2]; exact h1
  constructor
  · rintro (rfl | ⟨h1, _⟩)
    · exact hmem
    · exact h1
  · intro he
    by_cases hk : e.key = pkey p
    · left
      have h1 := Od.look_mem h.asc he
      have h2 := Od.look_mem h.asc hmem
      rw [hk] at h1
      exact Option.some.inj (h1.symm.trans h2)
    · exact .inr ⟨he, hk⟩
/-- a path's end: what was found -/
theorem path_found {w w' : World} {k : Nat} {p bs : List Nat} {l : List En} {v : Value} {below : Option Nat} (hp : p.length = k) (ho : ∀ c ∈ p, c < 2 ^ 64) (k1 : 1 ≤ k) (k16 : k ≤ 16) (hb : Below w.heap.size w w') (hv : RdN w' v bs) (hbl : bs.length ≤ 65)
    (h : (∃ lr, Chain w k p bs l lr ∧ RtN w k below lr ∧ (below = none ∨ cov lr p = false)) ∨ (∃ bs0 b x, bs = bs0 ++ [b] ∧ Chain w k p bs0 l [⟨p, x⟩] ∧ Nd w k b [⟨p, x⟩] ∧ below = none)) :
    (getE l p = none ∧ (∃ lr, Chain w k p bs l lr ∧ RtN w k below lr ∧ getE lr p = none ∧ (∀ b, below = some b → cov lr p = false)) ∧ Calls Tryz.prog 114 #[v] w' fun e w2 => e = .returned (.tuple #[.agg #[.slice none 0 0, .int .u64 0], .bool false]) ∧ Below w'.heap.size w' w2) ∨
    (∃ x bs0 b, getE l p = some x ∧ bs = bs0 ++ [b] ∧ Chain w k p bs0 l [⟨p, x⟩] ∧ Calls Tryz.prog 114 #[v] w' fun e w2 => EntP w' p x e w2) := by
  rcases h with ⟨lr, hch, hr, hc⟩ | ⟨bs0, b, x, rfl, hch, hnd, rfl⟩
  · left
    have hg : getE lr p = none := by
      cases below with
      | none => obtain rfl : lr = [] := hr; rfl
      | some b => exact getE_none (Nd.cov_none hr hp ho (by rcases hc with h | h; · cases h
                                                            · exact h))
    refine ⟨by rw [hch.get hp ho, hg], ⟨lr, hch, hr, hg, fun b e => by rcases hc with h | h; · rw [h] at e; cases e
                                                                       · exact h⟩, ?_⟩
    rcases List.eq_nil_or_concat bs with rfl | ⟨bs', b, rfl⟩
    · obtain ⟨A, c, rfl, _, _⟩ := hv
      exact found_none _ _ _
    · rw [List.concat_eq_append] at *
      obtain ⟨s, n, pre, ks, hsub, hh, hs, hk, hn, hc, rfl⟩ := hch.inv
      exact found_node w' bs' b s v hv (Below.keeps hb _ _ hh.c3) (by simp at hbl; omega)
  · right
    refine ⟨x, bs0, b, by rw [hch.get hp ho, getE_one], rfl, hch, found_leaf w' bs0 b k x p v hv (hnd.bel hb) k1 k16 (by simp at hbl; omega)⟩
set_option maxRecDepth 100000
/-- a leaf beside a node -/
theorem pair_list {w : World} {k ba bb m v : Nat} {p : List Nat} {la : List En} (hA : Nd w k ba la) (hB : Nd w k bb [⟨p, v⟩]) (hp : p.length = k) (ho : ∀ c ∈ p, c < 2 ^ 64) (hm : Zb.part (preL la) p 64 = m) (h1 : lev la ≤ m) (hg : ∀ e ∈ la, e.key ≠ pkey p) :
    cat ((pairKs (Zb.addr (preL la) m) (Zb.addr p m) ba bb la [⟨p, v⟩]).map kl) = insE p v la := by
  have h := pair_kd hA hB (m := m) (by rw [preL_one]; exact hm) h1 (by rw [lev_one]; omega)
  rw [preL_one] at h
  obtain ⟨hK, hne, _⟩ := h
  refine hK.cat_et.ext (hA.et.ins v hp ho) fun e => ?_
  have hasc : Od.Asc ka [(Zb.addr (preL la) m, ba, la)] := by unfold Od.Asc; simp
  rw [mem_cat, hA.et.mem_ins]
  constructor
  · rintro ⟨x, hx, he⟩
    obtain ⟨y, hy, rfl⟩ := List.mem_map.1 hx
    unfold pairKs at hy
    rcases (Od.mem_ins_iff (key := ka) hasc).1 hy with rfl | ⟨hy, _⟩
    · left; simpa [kl] using he
    · right
      obtain rfl : y = (Zb.addr (preL la) m, ba, la) := by simpa using hy
      exact ⟨he, hg e he⟩
  · rintro (rfl | ⟨he, _⟩)
    · exact ⟨_, List.mem_map.2 ⟨(Zb.addr p m, bb, [⟨p, v⟩]), (Od.mem_ins_iff (key := ka) hasc).2 (.inl rfl), rfl⟩, by simp [kl]⟩
    · exact ⟨_, List.mem_map.2 ⟨(Zb.addr (preL la) m, ba, la), (Od.mem_ins_iff (key := ka) hasc).2 (.inr ⟨by simp, by simpa [ka] using hne⟩), rfl⟩, he⟩
theorem RdN.take {w : World} {A : Option Addr} {n c j : Nat} {bs bs0 tl : List Nat} (h : RdN w (.slice A n c) bs) (he : bs = bs0 ++ tl) (hj : j = bs0.length) : RdN w (.slice A j c) bs0 := by
  obtain ⟨A', c', h1, hc, h2⟩ := h
  subst he hj
  injection h1 with e1 e2 e3
  subst e1 e3
  rw [List.length_append] at hc
  refine ⟨_, _, rfl, by omega, fun h0 => ?_⟩
  obtain ⟨g, h3, h4⟩ := h2 (by simp [h0])
  refine ⟨g, h3, fun j hj => ?_⟩
  rw [h4 j (by rw [List.length_append]; omega), List.getElem_append_left hj]
theorem part_lev {w : World} {k b : Nat} {l : List En} {p : List Nat} (h : Nd w k b l) (hp : p.length = k) (ho : ∀ c ∈ p, c < 2 ^ 64) (hc : cov l p = false) : ∃ m : Nat, Zb.part (preL l) p 64 = m ∧ lev l ≤ m := by
  obtain ⟨q1, q2, q3⟩ := h.pre_ok
  have h1 := cov_part l (lev l) q1 hp q2 ho q3
  unfold cov at hc
  rw [hc] at h1
  have h2 := of_decide_eq_false h1
  exact ⟨(Zb.part (preL l) p 64).toNat, by omega, by omega⟩
/-- Put: a tree with the entry; the same one where nothing changes, else a new one -/
def PutP (W : World) (t k : Nat) (p : List Nat) (v : Nat) (l : List En) (e : Ending) (w' : World) : Prop :=
  ∃ g, e = .returned (.tuple #[.pointer (some ⟨g, 0, none⟩), .int .i64 0]) ∧ TrR w' g k (insE p v l) ∧ Below W.heap.size W w' ∧ (getE l p = some v → g = t) ∧ (getE l p ≠ some v → W.heap.size ≤ g)
set_option maxHeartbeats 4000000 in
theorem tput_any (w : World) (t k v : Nat) (p : List Nat) (l : List En) (vp : Value) (ht : TrR w t k l) (hp : RdU w vp (pti p)) (hl : p.length = k) (ho : ∀ c ∈ p, c < 2 ^ 64) (hv : v < 2 ^ 64) :
    Calls Tryz.prog 59 #[.pointer (some ⟨t, 0, none⟩), vp, .int .u64 (v : Nat)] w fun e w' => PutP w t k p v l e w' := by
  have HPA := Lib.hid (path_any w t k p l vp ht hp hl ho)
  have HCK := Lib.hid (fun n c A => tchk_any w t k n c A ht.c0)
  have HV := Lib.hid hp
  obtain ⟨A2, c2, rfl, _⟩ := RdU.point hp
  rw [hl] at HPA HV ⊢
  have HD := Lib.hid (And.intro hl (And.intro ho (And.intro ht.k1 (And.intro ht.k16 hv))))
  have HT := Lib.hid ht
  clear ht hp hl ho hv
  go_enter Tryz.func59, Tryz.ntmps59
  go_wp2_with fail
  refine (HCK.out k c2 A2).mono ?_
  rintro e w1 ⟨rfl, hw⟩
  obtain rfl := hw.symm
  rw [if_pos rfl]
  go_wp2_with fail
  refine HPA.out.mono ?_
  rintro e w1 ⟨v0, bs, below, rfl, hown, hb, hbl, hcase⟩
  have hrd := hown.rdN
  rcases path_found HD.out.1 HD.out.2.1 HD.out.2.2.1 HD.out.2.2.2.1 hb hrd hbl hcase with ⟨hg, hlr, hf⟩ | ⟨x, bs0, b, hg, hbs, hch, hf⟩
  · have HF := Lib.hid hf
    have HB := Lib.hid hb
    have HR := Lib.hid (And.intro hrd hbl)
    have HG := Lib.hid (And.intro hg hlr)
    obtain ⟨A, c, rfl, _, _⟩ := hrd
    obtain ⟨bq, hbq⟩ := pv_ex below
    rw [hbq]
    have HBQ := Lib.hid hbq
    clear hf hb hcase hown hg hlr hbl hbq
    go_wp2_with fail
    refine HF.out.mono ?_
    rintro e w2 ⟨rfl, hb2⟩
    have HB2r := Lib.hid hb2
    have HB2 := Lib.hid (HB.out.trans (hb2.mono HB.out.size))
    clear hb2
    go_wp2_with fail
    have HLF := Lib.hid (fun w' (hb : Below w.heap.size w w') => nleaf_any w' p v _ (HV.out.below hb) (by have := HD.out; omega) (by have := HD.out; omega) HD.out.2.1 HD.out.2.2.2.2)
    refine (HLF.out _ (by repeat (first | exact HB2.out | (refine Below.drew ?_) | (refine below_drewN' ?_ _) | (refine below_alloc' ?_ _) | (refine Below.setCell ?_ (by first | exact Nat.le_refl _ | (have := HB2.out.size; simp; omega) | (have := HB2.out.size; omega)) _)))).mono ?_
    rintro e w3 ⟨g, rfl, hnd, hb3⟩
    have hb4 : Below w.heap.size w w3 := (show Below w.heap.size w _ from (by repeat (first | exact HB2.out | (refine Below.drew ?_) | (refine below_drewN' ?_ _) | (refine below_alloc' ?_ _) | (refine Below.setCell ?_ (by first | exact Nat.le_refl _ | (have := HB2.out.size; simp; omega) | (have := HB2.out.size; omega)) _)))).trans (hb3.mono (show w.heap.size ≤ _ from Below.size (by repeat (first | exact HB2.out | (refine Below.drew ?_) | (refine below_drewN' ?_ _) | (refine below_alloc' ?_ _) | (refine Below.setCell ?_ (by first | exact Nat.le_refl _ | (have := HB2.out.size; simp; omega) | (have := HB2.out.size; omega)) _)))))
    rw [HD.out.1] at hnd
    have hb1 : Below w1.heap.size w1 w3 := (show Below w1.heap.size w1 _ from (by repeat (first | exact HB2r.out | (refine Below.drew ?_) | (refine below_drewN' ?_ _) | (refine below_alloc' ?_ _) | (refine Below.setCell ?_ (by first | exact Nat.le_refl _ | (have := HB2r.out.size; simp; omega) | (have := HB2r.out.size; omega)) _)))).trans (hb3.mono (show w1.heap.size ≤ _ from Below.size (by repeat (first | exact HB2r.out | (refine Below.drew ?_) | (refine below_drewN' ?_ _) | (refine below_alloc' ?_ _) | (refine Below.setCell ?_ (by first | exact Nat.le_refl _ | (have := HB2r.out.size; simp; omega) | (have := HB2r.out.size; omega)) _)))))
    have HN := Lib.hid (And.intro hnd (And.intro hb4 (HR.out.1.below hb1)))
    clear hnd hb3 hb4 hb1
    obtain ⟨lr, hch, hr, hg0, hcv⟩ := HG.out.2
    cases below with
    | none =>
      obtain rfl : bq = none := by have := HBQ.out; rw [pv_none] at this; injection this with this; exact this.symm
      obtain rfl : lr = [] := hr
      have HUP := Lib.hid (up_any w3 t k g p bs l [] _ (insE p v) (Below.keeps HN.out.2.1 _ _ HT.out.c0) HD.out.2.2.1 HD.out.2.2.2.1 HN.out.2.2 (hch.bel HN.out.2.1) (opok_ins v HD.out.1 HD.out.2.1) HN.out.1 HR.out.2)
      clear hch hcv hg0
      go_wp2_with fail
      refine HUP.out.mono ?_
      rintro e w4 ⟨g4, rfl, ht4, hb4, hg4⟩
      have HF4 := Lib.hid (And.intro ht4 (And.intro (HN.out.2.1.trans (hb4.mono HN.out.2.1.size)) (Nat.le_trans HN.out.2.1.size hg4)))
      clear ht4 hb4 hg4
      go_wp2_with fail
      go_ret2
      exact ⟨g4, rfl, HF4.out.1, HF4.out.2.1, fun h => absurd (HG.out.1.symm.trans h) (by simp), fun _ => HF4.out.2.2⟩
    | some bb =>
      obtain rfl : bq = some ⟨bb, 0, none⟩ := by have := HBQ.out; rw [pv_some] at this; injection this with this; exact this.symm
      have hA : Nd w3 k bb lr := Nd.bel hr HN.out.2.1
      obtain ⟨m, hm1, hm2⟩ := part_lev hA HD.out.1 HD.out.2.1 (hcv bb rfl)
      have HPR := Lib.hid (npair_any w3 k bb g m lr [⟨p, v⟩] hA HN.out.1 (by rw [preL_one]; exact hm1) hm2 (by rw [lev_one]; omega) HD.out.2.2.1 HD.out.2.2.2.1)
      rw [preL_one, pair_list hA HN.out.1 HD.out.1 HD.out.2.1 hm1 hm2 (Nd.cov_none hA HD.out.1 HD.out.2.1 (hcv bb rfl))] at HPR
      have HUP := Lib.hid (fun w4 g4 (h : Below w3.heap.size w3 w4) (hn : Nd w4 k g4 (insE p v lr)) => up_any w4 t k g4 p bs l lr _ (insE p v) (Below.keeps (HN.out.2.1.trans (h.mono HN.out.2.1.size)) _ _ HT.out.c0) HD.out.2.2.1 HD.out.2.2.2.1 (HN.out.2.2.below h) (hch.bel (HN.out.2.1.trans (h.mono HN.out.2.1.size))) (opok_ins v HD.out.1 HD.out.2.1) hn HR.out.2)
      clear hch hcv hg0 hr hA hm1 hm2
      go_wp2_with fail
      refine HPR.out.mono ?_
      rintro e w4 ⟨g4, rfl, hn4, hb4⟩
      have HU4 := Lib.hid (And.intro (HUP.out w4 g4 hb4 hn4) (HN.out.2.1.trans (hb4.mono HN.out.2.1.size)))
      clear hn4 hb4
      go_wp2_with fail
      refine HU4.out.1.mono ?_
      rintro e w5 ⟨g5, rfl, ht4, hb4, hg4⟩
      have HF4 := Lib.hid (And.intro ht4 (And.intro (HU4.out.2.trans (hb4.mono HU4.out.2.size)) (Nat.le_trans HU4.out.2.size hg4)))
      clear ht4 hb4 hg4
      go_wp2_with fail
      go_ret2
      exact ⟨g5, rfl, HF4.out.1, HF4.out.2.1, fun h => absurd (HG.out.1.symm.trans h) (by simp), fun _ => HF4.out.2.2⟩
  · have HF := Lib.hid hf
    have HB := Lib.hid hb
    have HR := Lib.hid (And.intro hrd hbl)
    have HG := Lib.hid (And.intro hg (And.intro hbs hch))
    obtain ⟨A, c, rfl, _, _⟩ := hrd
    obtain ⟨bq, hbq⟩ := pv_ex below
    rw [hbq]
    clear hf hb hcase hown hg hbs hch hbl hbq
    go_wp2_with fail
    refine HF.out.mono ?_
    rintro e w2 ⟨u, rfl, hpt, hb2⟩
    obtain ⟨A9, c9, rfl, _⟩ := RdU.point hpt.rd
    have HB2r := Lib.hid hb2
    have HB2 := Lib.hid (HB.out.trans (hb2.mono HB.out.size))
    clear hb2 hpt
    by_cases hxv : x = v
    · subst hxv
      have h1 : ((x : Int) == (x : Int)) = true := by simp
      go_wp2_with fail
      go_ret2
      exact ⟨t, rfl, by rw [ins_same HT.out.et HD.out.1 HD.out.2.1 HG.out.1]; exact HT.out.bel (by repeat (first | exact HB2.out | (refine Below.drew ?_) | (refine below_drewN' ?_ _) | (refine below_alloc' ?_ _) | (refine Below.setCell ?_ (by first | exact Nat.le_refl _ | (have := HB2.out.size; simp; omega) | (have := HB2.out.size; omega)) _))), (by repeat (first | exact HB2.out | (refine Below.drew ?_) | (refine below_drewN' ?_ _) | (refine below_alloc' ?_ _) | (refine Below.setCell ?_ (by first | exact Nat.le_refl _ | (have := HB2.out.size; simp; omega) | (have := HB2.out.size; omega)) _))), fun _ => rfl, fun h => absurd HG.out.1 h⟩
    · have h1 : ((x : Int) == (v : Int)) = false := by simp; omega
      go_wp2_with fail
      have HLF := Lib.hid (fun w' (hb : Below w.heap.size w w') => nleaf_any w' p v _ (HV.out.below hb) (by have := HD.out; omega) (by have := HD.out; omega) HD.out.2.1 HD.out.2.2.2.2)
      refine (HLF.out _ (by repeat (first | exact HB2.out | (refine Below.drew ?_) | (refine below_drewN' ?_ _) | (refine below_alloc' ?_ _) | (refine Below.setCell ?_ (by first | exact Nat.le_refl _ | (have := HB2.out.size; simp; omega) | (have := HB2.out.size; omega)) _)))).mono ?_
      rintro e w3 ⟨g, rfl, hnd, hb3⟩
      have hb4 : Below w.heap.size w w3 := (show Below w.heap.size w _ from (by repeat (first | exact HB2.out | (refine Below.drew ?_) | (refine below_drewN' ?_ _) | (refine below_alloc' ?_ _) | (refine Below.setCell ?_ (by first | exact Nat.le_refl _ | (have := HB2.out.size; simp; omega) | (have := HB2.out.size; omega)) _)))).trans (hb3.mono (show w.heap.size ≤ _ from Below.size (by repeat (first | exact HB2.out | (refine Below.drew ?_) | (refine below_drewN' ?_ _) | (refine below_alloc' ?_ _) | (refine Below.setCell ?_ (by first | exact Nat.le_refl _ | (have := HB2.out.size; simp; omega) | (have := HB2.out.size; omega)) _)))))
      have hb1 : Below w1.heap.size w1 w3 := (show Below w1.heap.size w1 _ from (by repeat (first | exact HB2r.out | (refine Below.drew ?_) | (refine below_drewN' ?_ _) | (refine below_alloc' ?_ _) | (refine Below.setCell ?_ (by first | exact Nat.le_refl _ | (have := HB2r.out.size; simp; omega) | (have := HB2r.out.size; omega)) _)))).trans (hb3.mono (show w1.heap.size ≤ _ from Below.size (by repeat (first | exact HB2r.out | (refine Below.drew ?_) | (refine below_drewN' ?_ _) | (refine below_alloc' ?_ _) | (refine Below.setCell ?_ (by first | exact Nat.le_refl _ | (have := HB2r.out.size; simp; omega) | (have := HB2r.out.size; omega)) _)))))
      rw [HD.out.1] at hnd
      have hlen : bs.length = bs0.length + 1 := by rw [HG.out.2.1]; simp
      have HUP := Lib.hid (up_any w3 t k g p bs0 l _ (.slice A bs0.length c) (insE p v) (Below.keeps hb4 _ _ HT.out.c0) HD.out.2.2.1 HD.out.2.2.2.1 ((HR.out.1.below hb1).take HG.out.2.1 rfl) (HG.out.2.2.bel hb4) (opok_ins v HD.out.1 HD.out.2.1) (by rw [ins_one]; exact hnd) (by have := HR.out.2; omega))
      have HN := Lib.hid hb4
      have hc := HR.out.1
      obtain ⟨A', c', he1, hc, hA⟩ := hc
      injection he1 with he0 _ he1
      subst he1 he0
      obtain ⟨ga, rfl, _⟩ := hA (by rw [HG.out.2.1]; simp)
      have hc0 : ¬ c = 0 := by omega
      have hw0 : wrap64 (bs0.length : Int) = (bs0.length : Int) := by have := HR.out.2; unfold wrap64; omega
      have h2 : (0 : Int) ≤ (bs0.length : Int) := by omega
      have h3 : (bs0.length : Int) ≤ (c : Int) := by omega
      have HLE := Lib.hid hlen
      rw [hlen]
      clear hnd hb3 hb4 hb1 hlen hc hA
      go_wp2_with fail
      refine HUP.out.mono ?_
      rintro e w4 ⟨g4, rfl, ht4, hb4, hg4⟩
      have HF4 := Lib.hid (And.intro ht4 (And.intro (HN.out.trans (hb4.mono HN.out.size)) (Nat.le_trans HN.out.size hg4)))
      clear ht4 hb4 hg4
      go_wp2_with fail
      go_ret2
      exact ⟨g4, rfl, HF4.out.1, HF4.out.2.1, fun h => absurd (Option.some.inj (HG.out.1.symm.trans h)) hxv, fun _ => HF4.out.2.2⟩
end Go.Proofs.YtdkomhmciihkiaaGreat
/-! TrD -/
namespace Go.Proofs.YtdkomhmciihkiaaGreat
open Go.RowKit
set_option linter.unusedVariables false
set_option linter.unusedSimpArgs false

theorem without_path {w w1 : World} {k b s n x : Nat} {p pre : List Nat} {ks : List (Nat × Nat × List En)} (hb : Below w.heap.size w w1) (hp : p.length = k) (ho : ∀ c ∈ p, c < 2 ^ 64)
    (h : Hd w b n pre 0 (.pointer (some ⟨s, 0, none⟩)) (sumsL (cat (ks.map kl)))) (hs : SlR w s k (ks.map kb)) (hk : Kd k n pre (ks.map kl)) (hn : ∀ x ∈ ks, Nd w k x.2.1 x.2.2) (he : [⟨p, x⟩] = kidOf (Zb.addr p n) (ks.map kl)) :
    Calls Tryz.prog 192 #[.pointer (some ⟨b, 0, none⟩), .int .i64 (Zb.addr p n : Nat)] w1 fun e w' => NdT w1 k (delE p (cat (ks.map kl))) e w' := by
  obtain ⟨d1, d2, d3⟩ := hk.delOut hp ho (by rw [← he, del_one])
  obtain ⟨y, hy, hya, _⟩ := kidOf_mem (show (⟨p, x⟩ : En) ∈ kidOf (Zb.addr p n) (ks.map kl) by rw [← he]; simp)
  obtain ⟨z, hz, rfl⟩ := List.mem_map.1 hy
  obtain ⟨i0, hi0, rfl⟩ := List.getElem_of_mem hz
  have hlen : (Od.del ka (Zb.addr p n) (ks.map kl)).length + 1 = (ks.map kl).length := Od.del_length_eq (key := ka) (by
    intro e
    exact Od.look_none (key := ka) e _ hy hya)
  have h2 := hk.two
  have hdk := (del_ks (Zb.addr p n) ks).2
  rcases Nat.lt_or_ge (Od.del ka (Zb.addr p n) (ks.map kl)).length 2 with hlt | hge
  · have h1 : (Od.del ka (Zb.addr p n) ks).length = 1 := by rw [← hdk, List.length_map] at hlen hlt; omega
    obtain ⟨y, hy1⟩ := List.length_eq_one_iff.1 h1
    have hmem : y ∈ ks := by
      have : y ∈ Od.del ka (Zb.addr p n) ks := by rw [hy1]; simp
      have hasc : Od.Asc ka ks := by
        have := hk.asc
        unfold Od.Asc at this ⊢
        exact (List.pairwise_map (f := kl)).1 this
      exact ((Od.mem_del_iff (key := ka) hasc).1 this).1
    refine (nwo_one w1 k b s n i0 _ pre ks y (h.keep hb) (hs.below hb) hi0 hya hy1).mono ?_
    rintro e w2 ⟨rfl, hb2⟩
    refine ⟨_, rfl, ?_, hb2⟩
    have hc := d3 (by omega)
    rw [← hdk, hy1] at hc
    have : cat ([y].map kl) = y.2.2 := by simp [cat, kl]
    rw [← hc, this]
    exact ((hn y hmem).bel hb).bel hb2
  · rw [← d3 (by omega)]
    exact nwo_more w1 k b s n i0 _ pre ks (h.keep hb) (hs.below hb) (fun x hx => (hn x hx).bel hb) hi0 hya (d1 hge)
/-- Del -/
def DelP (W : World) (k : Nat) (p : List Nat) (l : List En) (e : Ending) (w' : World) : Prop := Below W.heap.size W w' ∧
  ((getE l p = none ∧ e = .returned (.tuple #[.pointer none, .int .i64 6])) ∨ (∃ x g, getE l p = some x ∧ e = .returned (.tuple #[.pointer (some ⟨g, 0, none⟩), .int .i64 0]) ∧ TrR w' g k (delE p l) ∧ W.heap.size ≤ g))
set_option maxRecDepth 100000
set_option maxHeartbeats 4000000 in
theorem tdel_any (w : World) (t k : Nat) (p : List Nat) (l : List En) (vp : Value) (ht : TrR w t k l) (hp : RdU w vp (pti p)) (hl : p.length = k) (ho : ∀ c ∈ p, c < 2 ^ 64) :
    Calls Tryz.prog 132 #[.pointer (some ⟨t, 0, none⟩), vp] w fun e w' => DelP w k p l e w' := by
  have HPA := Lib.hid (path_any w t k p l vp ht hp hl ho)
  have HCK := Lib.hid (fun n c A => tchk_any w t k n c A ht.c0)
  have HV := Lib.hid hp
  obtain ⟨A2, c2, rfl, _⟩ := RdU.point hp
  rw [hl] at HPA HV ⊢
  have HD := Lib.hid (And.intro hl (And.intro ho (And.intro ht.k1 ht.k16)))
  have HT := Lib.hid ht
  clear ht hp hl ho
  go_enter Tryz.func132, Tryz.ntmps132
  go_wp2_with fail
  refine (HCK.out k c2 A2).mono ?_
  rintro e w1 ⟨rfl, hw⟩
  obtain rfl := hw.symm
  rw [if_pos rfl]
  go_wp2_with fail
  refine HPA.out.mono ?_
  rintro e w1 ⟨v0, bs, below, rfl, hown, hb, hbl, hcase⟩
  have hrd := hown.rdN
  rcases path_found HD.out.1 HD.out.2.1 HD.out.2.2.1 HD.out.2.2.2 hb hrd hbl hcase with ⟨hg, hlr, hf⟩ | ⟨x, bs0, b, hg, hbs, hch, hf⟩
  · have HF := Lib.hid hf
    have HB := Lib.hid hb
    have HG := Lib.hid hg
    obtain ⟨A, c, rfl, _, _⟩ := hrd
    obtain ⟨bq, hbq⟩ := pv_ex below
    rw [hbq]
    clear hf hb hcase hown hg hlr hbl hbq
    go_wp2_with fail
    refine HF.out.mono ?_
    rintro e w2 ⟨rfl, hb2⟩
    have HB2 := Lib.hid (HB.out.trans (hb2.mono HB.out.size))
    clear hb2
    go_wp2_with fail
    go_ret2
    exact ⟨(by repeat (first | exact HB2.out | (refine Below.drew ?_) | (refine below_drewN' ?_ _) | (refine below_alloc' ?_ _) | (refine Below.setCell ?_ (by first | exact Nat.le_refl _ | (have := HB2.out.size; simp; omega) | (have := HB2.out.size; omega)) _))), .inl ⟨HG.out, rfl⟩⟩
  · have HF := Lib.hid hf
    have HB := Lib.hid hb
    have HR := Lib.hid (And.intro hrd hbl)
    have HG := Lib.hid (And.intro hg (And.intro hbs hch))
    obtain ⟨A, c, rfl, hcc, hA⟩ := hrd
    obtain ⟨ga, rfl, hcells⟩ := hA (by rw [hbs]; simp)
    obtain ⟨bq, hbq⟩ := pv_ex below
    rw [hbq]
    rcases List.eq_nil_or_concat bs0 with rfl | ⟨bs1, b1, rfl⟩
    · have hlen : bs.length = 1 := by rw [hbs]; rfl
      rw [hlen] at HF ⊢
      clear hf hb hcase hown hg hbs hch hbl hbq hcells hA hlen hcc
      go_wp2_with fail
      refine HF.out.mono ?_
      rintro e w2 ⟨u, rfl, hpt, hb2⟩
      obtain ⟨A9, c9, rfl, _⟩ := RdU.point hpt.rd
      have HB2 := Lib.hid (HB.out.trans (hb2.mono HB.out.size))
      have t0 := Below.keeps HB2.out _ _ HT.out.c0
      have htl : t < w2.heap.size := World.block_lt_of_cell? _ _ t0
      clear hb2 hpt
      have htn : ¬ w2.heap.size = t := by omega
      go_wp2_with fail
      go_ret2
      have hl : l = [⟨p, x⟩] := by
        have := HG.out.2.2
        generalize hbs : ([] : List Nat) = ys at this
        generalize he : [(⟨p, x⟩ : En)] = zs at this
        cases this with
        | nil => rfl
        | snoc bs' _ b' s n pre ks sub h hs hk hn hc => simp at hbs
      refine ⟨(by repeat (first | exact HB2.out | (refine Below.drew ?_) | (refine below_drewN' ?_ _) | (refine below_alloc' ?_ _) | (refine Below.setCell ?_ (by first | exact Nat.le_refl _ | (have := HB2.out.size; simp; omega) | (have := HB2.out.size; omega)) _))), .inr ⟨x, _, HG.out.1, rfl, ⟨?_, ⟨none, ?_, ?_⟩, HD.out.2.2.1, HD.out.2.2.2, _, (by have h := alloc_blk (w2.alloc (.cells #[.slice A9 p.length c9, .int .u64 (x : Nat)] 35)) (.cells #[.int .i64 (k : Nat), .pointer none] 194); rw [World.size_alloc] at h; exact h)⟩, ?_⟩⟩
      · simp [go_sem]
      · simp [go_sem, pv_none]
      · rw [hl, del_one]; exact rfl
      · have := HB2.out.size; simp; omega
    · rw [List.concat_eq_append] at *
      have hlen : bs.length = bs1.length + 2 := by rw [hbs]; simp
      obtain ⟨s, n, pre, ks, hsub, hh, hs, hk, hn, hc, he⟩ := hch.inv
      have HWO := Lib.hid (fun w1 hb => without_path (w := w) (w1 := w1) hb HD.out.1 HD.out.2.1 hh hs hk hn he)
      have hj := hcells bs1.length (by omega)
      have hb1 : bs[bs1.length]'(by omega) = b1 := by simp [hbs]
      rw [hb1] at hj
      have HJ := Lib.hid hj
      have HLV := Lib.hid (fun w1 (hb : Below w.heap.size w w1) => nlev_any w1 b1 n (Below.keeps hb _ _ hh.c0))
      have HZA := Lib.hid (fun w1 (hb : Below w.heap.size w w1) => zAddr_any p n _ w1 (HV.out.below hb) (by have := HD.out; omega) (by have := HD.out; omega) HD.out.2.1 hk.n64)
      have HX := Lib.hid (And.intro hsub hlen)
      have HD0 := Lib.hid (And.intro (del_one p x) he)
      have HP := Lib.hid (HR.out.1.take (tl := [b1, b]) (j := bs1.length) (bs0 := bs1) (by rw [hbs]; simp) rfl)
      have h1 : (0 : Int) ≤ (bs1.length : Int) := by omega
      have h2 : (bs1.length : Int) < (bs1.length : Int) + 2 := by omega
      have h3 : (bs1.length : Int) ≤ (c : Int) := by omega
      have h4 : (((bs1.length : Int) + 2) == 1) = false := by simp; omega
      have hc0 : ¬ c = 0 := by omega
      have hw0 : wrap64 (bs1.length : Int) = (bs1.length : Int) := by unfold wrap64; omega
      rw [hlen] at HF ⊢
      clear hf hb hcase hown hg hbs hch hbl hbq hcells hA hlen hcc hsub hh hs hk hn hc he hj hb1
      go_wp2_with fail
      refine HF.out.mono ?_
      rintro e w2 ⟨u, rfl, hpt, hb2⟩
      obtain ⟨A9, c9, rfl, _⟩ := RdU.point hpt.rd
      have HB2 := Lib.hid (HB.out.trans (hb2.mono HB.out.size))
      have HB2r := Lib.hid hb2
      have x0 := Below.keeps hb2 _ _ HJ.out
      have hxl : ga < w2.heap.size := World.block_lt_of_cell? w2 _ x0
      have hgn : ¬ w2.heap.size = ga := by omega
      clear hb2 hpt
      go_wp2_with fail
      refine (HLV.out _ (by repeat (first | exact HB2.out | (refine Below.drew ?_) | (refine below_drewN' ?_ _) | (refine below_alloc' ?_ _) | (refine Below.setCell ?_ (by first | exact Nat.le_refl _ | (have := HB2.out.size; simp; omega) | (have := HB2.out.size; omega)) _)))).mono ?_
      rintro e w3 ⟨rfl, hw⟩
      obtain rfl := hw.symm
      go_wp2_with fail
      refine (HZA.out _ (by repeat (first | exact HB2.out | (refine Below.drew ?_) | (refine below_drewN' ?_ _) | (refine below_alloc' ?_ _) | (refine Below.setCell ?_ (by first | exact Nat.le_refl _ | (have := HB2.out.size; simp; omega) | (have := HB2.out.size; omega)) _)))).mono ?_
      rintro e w3 ⟨rfl, hw⟩
      obtain rfl := hw.symm
      go_wp2_with fail
      refine (HWO.out _ (by repeat (first | exact HB2.out | (refine Below.drew ?_) | (refine below_drewN' ?_ _) | (refine below_alloc' ?_ _) | (refine Below.setCell ?_ (by first | exact Nat.le_refl _ | (have := HB2.out.size; simp; omega) | (have := HB2.out.size; omega)) _)))).mono ?_
      rintro e w3 ⟨g3, rfl, hn3, hb3⟩
      have hb4 : Below w.heap.size w w3 := (show Below w.heap.size w _ from (by repeat (first | exact HB2.out | (refine Below.drew ?_) | (refine below_drewN' ?_ _) | (refine below_alloc' ?_ _) | (refine Below.setCell ?_ (by first | exact Nat.le_refl _ | (have := HB2.out.size; simp; omega) | (have := HB2.out.size; omega)) _)))).trans (hb3.mono (show w.heap.size ≤ _ from Below.size (by repeat (first | exact HB2.out | (refine Below.drew ?_) | (refine below_drewN' ?_ _) | (refine below_alloc' ?_ _) | (refine Below.setCell ?_ (by first | exact Nat.le_refl _ | (have := HB2.out.size; simp; omega) | (have := HB2.out.size; omega)) _)))))
      have hb1 : Below w1.heap.size w1 w3 := (show Below w1.heap.size w1 _ from (by repeat (first | exact HB2r.out | (refine Below.drew ?_) | (refine below_drewN' ?_ _) | (refine below_alloc' ?_ _) | (refine Below.setCell ?_ (by first | exact Nat.le_refl _ | (have := HB2r.out.size; simp; omega) | (have := HB2r.out.size; omega)) _)))).trans (hb3.mono (show w1.heap.size ≤ _ from Below.size (by repeat (first | exact HB2r.out | (refine Below.drew ?_) | (refine below_drewN' ?_ _) | (refine below_alloc' ?_ _) | (refine Below.setCell ?_ (by first | exact Nat.le_refl _ | (have := HB2r.out.size; simp; omega) | (have := HB2r.out.size; omega)) _)))))
      have HUP := Lib.hid (up_any w3 t k g3 p bs1 l _ _ (delE p) (Below.keeps hb4 _ _ HT.out.c0) HD.out.2.2.1 HD.out.2.2.2 (HP.out.below hb1) (HX.out.1.bel hb4) (opok_del HD.out.1 HD.out.2.1) hn3 (by have := HR.out.2; have := HX.out.2; omega))
      have HN := Lib.hid hb4
      clear hn3 hb3 hb4 hb1
      go_wp2_with fail
      refine HUP.out.mono ?_
      rintro e w4 ⟨g4, rfl, ht4, hb4, hg4⟩
      have HF4 := Lib.hid (And.intro ht4 (And.intro (HN.out.trans (hb4.mono HN.out.size)) (Nat.le_trans HN.out.size hg4)))
      clear ht4 hb4 hg4
      go_wp2_with fail
      go_ret2
      exact ⟨HF4.out.2.1, .inr ⟨x, g4, HG.out.1, rfl, HF4.out.1, HF4.out.2.2⟩⟩
end Go.Proofs.YtdkomhmciihkiaaGreat
/-! TrE -/
namespace Go.Proofs.YtdkomhmciihkiaaGreat
open Go.RowKit
set_option linter.unusedVariables false
set_option linter.unusedSimpArgs false

set_option maxRecDepth 100000
theorem of_nil (w : World) (k : Nat) (k1 : 1 ≤ k) (k16 : k ≤ 16) :
    Calls Tryz.prog 60 #[.int .i64 (k : Nat), .pointer none] w fun e w' => ∃ g, e = .returned (.tuple #[.pointer (some ⟨g, 0, none⟩), .int .i64 0]) ∧ TrR w' g k [] ∧ Below w.heap.size w w' := by
  have HD := Lib.hid (And.intro k1 k16)
  have h1 : ¬ (k : Int) < 1 := by omega
  have h2 : ¬ (k : Int) > 16 := by omega
  have h3 : decide ((k : Int) < 1) = false := by simp; omega
  have h4 : decide ((k : Int) > 16) = false := by simp; omega
  clear k1 k16
  go_enter Tryz.func60, Tryz.ntmps60
  go_wp2_with fail
  go_ret2
  exact ⟨_, rfl, ⟨by simp [go_sem], ⟨none, by simp [go_sem, pv_none], rfl⟩, HD.out.1, HD.out.2, _, alloc_blk _ _⟩, (by repeat (first | exact Below.refl _ _ | (refine Below.drew ?_) | (refine below_drewN' ?_ _) | (refine below_alloc' ?_ _) | (refine Below.setCell ?_ (by first | exact Nat.le_refl _ | (simp; done) | (simp; omega)) _)))⟩
theorem tnew_any (w : World) (k : Nat) (k1 : 1 ≤ k) (k16 : k ≤ 16) :
    Calls Tryz.prog 15 #[.int .i64 (k : Nat)] w fun e w' => ∃ g, e = .returned (.tuple #[.pointer (some ⟨g, 0, none⟩), .int .i64 0]) ∧ TrR w' g k [] ∧ Below w.heap.size w w' := by
  have HO := Lib.hid (of_nil w k k1 k16)
  clear k1 k16
  go_enter Tryz.func15, Tryz.ntmps15
  go_wp2_with fail
  refine HO.out.mono ?_
  rintro e w1 ⟨g, rfl, ht, hb⟩
  have HT := Lib.hid (And.intro ht hb)
  clear ht hb
  go_wp2_with fail
  go_ret2
  exact ⟨g, rfl, HT.out.1, HT.out.2⟩
theorem tput_dim (w : World) (t k n c v : Nat) (A : Option Addr) (l : List En) (ht : TrR w t k l) (hn : n ≠ k) :
    Calls Tryz.prog 59 #[.pointer (some ⟨t, 0, none⟩), .slice A n c, .int .u64 (v : Nat)] w fun e w' => e = .returned (.tuple #[.pointer none, .int .i64 2]) ∧ w' = w := by
  have HC := Lib.hid (tchk_any w t k n c A ht.c0)
  rw [if_neg hn] at HC
  clear ht hn
  go_enter Tryz.func59, Tryz.ntmps59
  go_wp2_with fail
  refine HC.out.mono ?_
  rintro e w1 ⟨rfl, hw⟩
  obtain rfl := hw.symm
  go_wp2_with fail
  go_ret2
  exact ⟨rfl, rfl⟩
theorem tdel_dim (w : World) (t k n c : Nat) (A : Option Addr) (l : List En) (ht : TrR w t k l) (hn : n ≠ k) :
    Calls Tryz.prog 132 #[.pointer (some ⟨t, 0, none⟩), .slice A n c] w fun e w' => e = .returned (.tuple #[.pointer none, .int .i64 2]) ∧ w' = w := by
  have HC := Lib.hid (tchk_any w t k n c A ht.c0)
  rw [if_neg hn] at HC
  clear ht hn
  go_enter Tryz.func132, Tryz.ntmps132
  go_wp2_with fail
  refine HC.out.mono ?_
  rintro e w1 ⟨rfl, hw⟩
  obtain rfl := hw.symm
  go_wp2_with fail
  go_ret2
  exact ⟨rfl, rfl⟩
end Go.Proofs.YtdkomhmciihkiaaGreat
/-! Ref06 -/
namespace Go.Proofs.YtdkomhmciihkiaaGreat
open Go.RowKit
set_option linter.unusedVariables false

/-- the lists that are walked here -/
structure EtS (k : Nat) (l : List En) : Prop where
  et : Et k l
  k40 : k ≤ 40
  short : l.length ≤ 1000
structure PtS (k : Nat) (p : List Nat) : Prop where
  len : p.length = k
  ok : ∀ x ∈ p, x < 2 ^ 64

set_option maxRecDepth 100000 in
set_option maxHeartbeats 1000000 in
theorem rPlace_any (k : Nat) (l : List En) (p : List Nat) (v vp : Value) (w : World) (hv : RdE w v l) (hp : RdU w vp (pti p)) (hl : EtS k l) (hs : PtS k p) :
    Calls Tryz.prog 111 #[v, vp] w fun e w' => e = .returned (.tuple #[.int .i64 (Od.place En.key (pkey p) l).1, .bool (Od.place En.key (pkey p) l).2]) ∧ Below w.heap.size w w' := by
  obtain ⟨A, c, rfl, hcap, ga0⟩ := hv
  clear hcap
  have HD := Lib.hid (And.intro hl hs)
  have HG := Lib.hid ga0
  have HP := Lib.hid hp
  clear hl hs ga0 hp
  go_enter Tryz.func111, Tryz.ntmps111
  go_wp2_with fail
  go_loopw [6] (fun i wr => ∃ j : Nat, j ≤ l.length ∧ i = .int .i64 j ∧ (∀ q (hq : q < l.length), q < j → En.key l[q] < pkey p) ∧ Below w.heap.size w wr) (fun i _ => l.length - (intOf i).toNat)
  case atStart => exact ⟨0, Nat.zero_le _, rfl, fun q hq h => by omega, (by repeat (first | exact Below.refl _ _ | assumption | (refine Below.drew ?_) | (refine below_drewN' ?_ _) | (refine below_alloc' ?_ _)))⟩
  case round =>
    obtain ⟨j, hj, rfl, hall, hb⟩ := hrel
    have HB := Lib.hid hb
    have HA := Lib.hid hall
    clear hb hall
    by_cases hlt : j < l.length
    · have h3 : (j : Int) < l.length := by omega
      have h5 : (0 : Int) ≤ (j : Int) := by omega
      obtain ⟨b, o, rfl, ga⟩ := HG.out (by omega)
      obtain ⟨v0, c0, hv0, c1⟩ := (ga j hlt).keep (Below.keeps HB.out)
      clear ga c1
      have hblt : b < wr.heap.size := World.block_lt_of_cell? wr _ c0
      have HV := Lib.hid hv0
      have HW := Lib.hid (show wrap64 ((j : Int) + 1) = ((j + 1 : Nat) : Int) by have := HD.out.1.short; unfold wrap64; omega)
      have HC := Lib.hid (fun (w' : World) (h1 : RdU w' v0 (pti l[j].p)) (h2 : RdU w' vp (pti p)) => rCmp_any l[j].p p v0 vp w' h1 h2 (by rw [HD.out.1.et.len _ (List.getElem_mem hlt), HD.out.2.len]) (by rw [HD.out.1.et.len _ (List.getElem_mem hlt)]; exact HD.out.1.k40) (HD.out.1.et.ok _ (List.getElem_mem hlt)) HD.out.2.ok)
      obtain ⟨A0, cc, e0, _⟩ := RdU.point hv0
      subst e0
      clear hv0
      have h := HB.out
      by_cases hz : Zb.cmp l[j].p p < 0
      · have HN := Lib.hid (show ∀ q (hq : q < l.length), q < j + 1 → En.key l[q] < pkey p from fun q hq hqj => by
          by_cases e : q < j
          · exact HA.out q hq e
          · obtain rfl : q = j := by omega
            exact (cmp_neg _ _).1 hz)
        generalize Zb.cmp l[j].p p = z at *
        have hz' : ¬ z ≥ 0 := by omega
        clear hz
        go_wp2_with fail
        refine (HC.out _ (RdU.below HV.out (by repeat (first | exact Below.refl _ _ | assumption | (refine Below.drew ?_) | (refine below_drewN' ?_ _) | (refine below_alloc' ?_ _)))) (RdU.below HP.out (by repeat (first | exact Below.refl _ _ | assumption | (refine Below.drew ?_) | (refine below_drewN' ?_ _) | (refine below_alloc' ?_ _))))).mono ?_
        rintro e w' ⟨rfl, rfl⟩
        go_wp2_with fail
        go_roundw
        case rel => exact ⟨j + 1, by omega, by rw [HW.out], HN.out, (by repeat (first | exact Below.refl _ _ | assumption | (refine Below.drew ?_) | (refine below_drewN' ?_ _) | (refine below_alloc' ?_ _)))⟩
        case measure => rw [intOf_of' HW.out, intOf_of' rfl]; omega
      · have HN := Lib.hid (Od.place_at (key := En.key) (n := pkey p) j hlt (fun q hq h => HA.out q hq h) (fun h => hz ((cmp_neg _ _).2 h)))
        have HZ := Lib.hid (show (Zb.cmp l[j].p p == 0) = decide (En.key l[j] = pkey p) by
          apply bool_ext
          simp only [beq_iff_eq, decide_eq_true_eq]
          exact cmp_zero _ _)
        generalize Zb.cmp l[j].p p = z at *
        have hz' : z ≥ 0 := by omega
        clear hz
        go_wp2_with fail
        refine (HC.out _ (RdU.below HV.out (by repeat (first | exact Below.refl _ _ | assumption | (refine Below.drew ?_) | (refine below_drewN' ?_ _) | (refine below_alloc' ?_ _)))) (RdU.below HP.out (by repeat (first | exact Below.refl _ _ | assumption | (refine Below.drew ?_) | (refine below_drewN' ?_ _) | (refine below_alloc' ?_ _))))).mono ?_
        rintro e w' ⟨rfl, rfl⟩
        go_wp2_with fail
        go_ret2
        exact ⟨by rw [HN.out, ← HZ.out] <;> rfl, (by repeat (first | exact Below.refl _ _ | assumption | (refine Below.drew ?_) | (refine below_drewN' ?_ _) | (refine below_alloc' ?_ _)))⟩
    · have HN := Lib.hid (Od.place_end (key := En.key) (n := pkey p) (l := l) (fun q hq => HA.out q hq (by omega)))
      have h := HB.out
      go_wp2_with fail
      go_ret2
      exact ⟨by rw [HN.out] <;> rfl, (by repeat (first | exact Below.refl _ _ | assumption | (refine Below.drew ?_) | (refine below_drewN' ?_ _) | (refine below_alloc' ?_ _)))⟩

theorem rGet_any (k : Nat) (l : List En) (p : List Nat) (v vp : Value) (w : World) (hv : RdE w v l) (hp : RdU w vp (pti p)) (hl : EtS k l) (hs : PtS k p) :
    Calls Tryz.prog 133 #[v, vp] w fun e w' => e = .returned (.tuple #[.int .u64 ((getE l p).getD 0 : Nat), .bool (getE l p).isSome]) ∧ Below w.heap.size w w' := by
  have HL := Lib.hid (show getE l p = if (Od.place En.key (pkey p) l).2 then (l[(Od.place En.key (pkey p) l).1]?).map (·.v) else none by
    unfold getE; rw [Od.look_place hl.et.asc]; split <;> rfl)
  have HP := Lib.hid (rPlace_any k l p v vp w hv hp hl hs)
  obtain ⟨A, c, rfl, hcap, ga0⟩ := hv
  cases hb : (Od.place En.key (pkey p) l).2 with
  | false =>
    rw [hb] at HP HL
    generalize (Od.place En.key (pkey p) l).1 = i at *
    rw [show getE l p = none from HL.out]
    clear ga0 hcap hp hl hs hb HL
    go_enter Tryz.func133, Tryz.ntmps133
    go_wp2_with fail
    refine HP.out.mono ?_
    rintro e w' ⟨rfl, hb⟩
    go_wp2_with fail
    go_ret2
    exact ⟨rfl, hb⟩
  | true =>
    obtain ⟨hi, _⟩ := Od.place_lt hb
    rw [hb] at HP HL
    generalize (Od.place En.key (pkey p) l).1 = i at *
    have HE := Lib.hid (show getE l p = some l[i].v by rw [HL.out]; simp [hi])
    obtain ⟨b, o, rfl, ga⟩ := ga0 (by omega)
    have HC := Lib.hid (ga i hi)
    have h3 : (i : Int) < l.length := by omega
    have h5 : (0 : Int) ≤ (i : Int) := by omega
    rw [HE.out]
    clear ga0 ga hcap hp hl hs hb HL HE
    go_enter Tryz.func133, Tryz.ntmps133
    go_wp2_with fail
    refine HP.out.mono ?_
    rintro e w' ⟨rfl, hb⟩
    obtain ⟨v0, c0, hv0, c1⟩ := HC.out.keep (Below.keeps hb)
    clear c0 hv0
    go_wp2_with fail
    go_ret2
    exact ⟨rfl, hb⟩
end Go.Proofs.YtdkomhmciihkiaaGreat
/-! Ref06b -/
namespace Go.Proofs.YtdkomhmciihkiaaGreat
open Go.RowKit
set_option linter.unusedVariables false
set_option linter.unusedSimpArgs false

theorem RdE.drop' {w : World} {b o c : Nat} {l : List En} (h : RdE w (.slice (some ⟨b, o, none⟩) l.length c) l) (k : Nat) (hk : k ≤ l.length) :
    RdE w (.slice (if c = k then some ⟨b, o, none⟩ else some ⟨b, o + k * 2, none⟩) (l.length - k) (c - k)) (l.drop k) := by
  have := h.drop k hk
  rw [show (if c = k then some (⟨b, o, none⟩ : Addr) else some ⟨b, o + k * 2, none⟩) = (if c = k then some ⟨b, o, none⟩ else (some (⟨b, o, none⟩ : Addr)).map (·.add (k * 2))) by
    split
    · rfl
    · simp only [Option.map_some, Addr.add]
      split
      · rename_i h0; rw [h0]; rfl
      · rfl]
  exact this
/-- a slice of entries is handed back -/
def RetE (W : World) (l : List En) (e : Ending) (w' : World) : Prop := ∃ v, e = .returned v ∧ RdE w' v l ∧ Below W.heap.size W w'
theorem RetE.mk {W w' : World} {l : List En} {v : Value} (h : RdE w' v l) (hb : Below W.heap.size W w') : RetE W l (.returned v) w' := ⟨v, rfl, h, hb⟩

theorem run_append_E0 (W w : World) (v x : Value) (m : List En) (g : Nat) (hg : v = .slice (some ⟨g, 0, none⟩) 0 0) (hown : OwnE W w v []) (hx : SrcE W w x m) (hb : Below W.heap.size W w) (hlen : m.length ≤ 100000) (ty : TypeId) :
    ∃ v' w', (Builtin.append_ #[44, 44] ty #[v, x]).run Tryz.prog w = .ok v' w' ∧ OwnE W w' v' m ∧ Below w.heap.size w w' := by
  subst hg
  obtain ⟨cs, ho, hc⟩ := hown
  obtain rfl : cs = [] := hc
  obtain ⟨ds, hd, hx⟩ := hx
  obtain ⟨v', w', a1, a2, a3⟩ := run_append_lit (P := Tryz.prog) w W.heap.size 44 ty 35 _ 2 32 Tryz.underlying44 entryInfo rfl (by omega) g ho x m.length ds hx (by simp only [maxLen]; omega) (by omega) hb.size
  exact ⟨v', w', a1, ⟨_, a2, hd⟩, a3⟩

set_option maxRecDepth 8000 in
set_option maxHeartbeats 1000000 in
theorem rDel_any (k : Nat) (l : List En) (p : List Nat) (v vp : Value) (w : World) (hv : RdE w v l) (hp : RdU w vp (pti p)) (hl : EtS k l) (hs : PtS k p) :
    Calls Tryz.prog 106 #[v, vp] w fun e w' => RetE w (delE p l) e w' := by
  have HP := Lib.hid (rPlace_any k l p v vp w hv hp hl hs)
  have HL := Lib.hid (Od.del_place (key := En.key) (n := pkey p) hl.et.asc)
  have HV := Lib.hid hv
  obtain ⟨A, c, rfl, hcap, ga0⟩ := hv
  cases hb : (Od.place En.key (pkey p) l).2 with
  | false =>
    rw [hb] at HP HL
    generalize (Od.place En.key (pkey p) l).1 = i at *
    have HE := Lib.hid (show delE p l = l from HL.out)
    clear ga0 hcap hp hl hs hb HL
    go_enter Tryz.func106, Tryz.ntmps106
    go_wp2_with fail
    refine HP.out.mono ?_
    rintro e w' ⟨rfl, hb⟩
    go_wp2_with fail
    go_ret
    rw [HE.out]
    exact RetE.mk (HV.out.below hb) hb
  | true =>
    obtain ⟨hq, hqk⟩ := Od.place_lt hb
    clear hqk
    rw [hb] at HP HL
    generalize (Od.place En.key (pkey p) l).1 = q at *
    have HE := Lib.hid (show delE p l = l.take q ++ l.drop (q + 1) from HL.out)
    obtain ⟨bk, ofs, rfl, ga⟩ := ga0 (by omega)
    have HN := Lib.hid (And.intro hl.short hq)
    have hw : IntKind.i64.wrap ((q : Int) + 1) = ((q + 1 : Nat) : Int) := IntWalk.i64_in _ (by have := hl.short; omega)
    have HT := Lib.hid (HV.out.take q (by omega))
    have HU := Lib.hid (HV.out.drop' (q + 1) (by omega))
    have h3 : q ≤ c := by omega
    have h4 : (0 : Int) ≤ (q : Int) + 1 := by omega
    have h5 : (q : Int) + 1 ≤ (l.length : Int) := by omega
    have h6 : q + 1 ≤ c := by omega
    clear ga0 ga hcap hp hl hs hb HL hq
    go_enter Tryz.func106, Tryz.ntmps106
    go_wp2_with fail
    refine HP.out.mono ?_
    rintro e w' ⟨rfl, hb⟩
    have HS := Lib.hid hb
    go_wp2_with fail
    refine wp_region_vals 9 [fun v9 w9 => OwnE w w9 v9 [] ∧ ∃ g, v9 = .slice (some ⟨g, 0, none⟩) 0 0,
      fun v _ => v = .slice (some ⟨bk, ofs, none⟩) l.length c,
      fun v _ => v = .int .i64 (q : Nat),
      fun v9 w9 => RdE w v9 (l.take q),
      fun v9 w9 => OwnE w w9 v9 (l.take q),
      fun v _ => v = .slice (some ⟨bk, ofs, none⟩) l.length c,
      fun v _ => v = .int .i64 (q : Nat),
      fun v _ => v = .int .i64 ((q + 1 : Nat) : Int),
      fun v9 w9 => RdE w v9 (l.drop (q + 1))]
      (by kernel_rfl) (by kernel_rfl) (by kernel_rfl) (by kernel_rfl) ?_ ?_ ?_
    · intro V hV v w1 w2 h hb
      simp only [List.mem_cons, List.not_mem_nil, or_false] at hV
      rcases hV with rfl | rfl | rfl | rfl | rfl | rfl | rfl | rfl | rfl
      all_goals first | exact h | (first | exact ⟨h.1.below hb, h.2⟩ | exact OwnE.below h hb)
    · intro i o hi ho
      match i, hi with
      | 0, _ =>
      obtain rfl := Option.some.inj ho
      intro a1 w1 K hk hK
      simp [Region.wanted, Oper.wp, Act.eval, go_sem, hw, h3, h4, h5, h6]
      exact hK _ _ (by repeat (first | exact Below.refl _ _ | assumption | (refine Below.drew ?_) | (refine below_drewN' ?_ _) | (refine below_alloc' ?_ _))) ⟨OwnE.lit (Nat.le_trans HS.out.size hk.ext.size) rfl, _, rfl⟩
      | 1, _ =>
      obtain rfl := Option.some.inj ho
      intro a1 w1 K hk hK
      have e0 : a1.tmps.getD 0 undef = .slice (some ⟨bk, ofs, none⟩) l.length c := hk.same 0 (by simp)
      simp [Region.wanted, Oper.wp, Act.eval, go_sem, e0, hw, h3, h4, h5, h6]
      exact hK _ _ (Below.refl _ _) rfl
      | 2, _ =>
      obtain rfl := Option.some.inj ho
      intro a1 w1 K hk hK
      have e5 : a1.tmps.getD 5 undef = .int .i64 (q : Nat) := hk.same 5 (by simp)
      simp [Region.wanted, Oper.wp, Act.eval, go_sem, e5, hw, h3, h4, h5, h6]
      exact hK _ _ (Below.refl _ _) rfl
      | 3, _ =>
      obtain rfl := Option.some.inj ho
      intro a1 w1 K hk hK
      have d17 : a1.tmps.getD 17 undef = .slice (some ⟨bk, ofs, none⟩) l.length c := hk.deps ⟨1, .data⟩ (by simp) rfl _ _ rfl rfl
      have d18 : a1.tmps.getD 18 undef = .int .i64 (q : Nat) := hk.deps ⟨2, .data⟩ (by simp) rfl _ _ rfl rfl
      simp [Region.wanted, Oper.wp, Act.eval, go_sem, d17, d18, hw, h3, h4, h5, h6]
      exact hK _ _ (by repeat (first | exact Below.refl _ _ | assumption | (refine Below.drew ?_) | (refine below_drewN' ?_ _) | (refine below_alloc' ?_ _))) HT.out
      | 4, _ =>
      obtain rfl := Option.some.inj ho
      intro a1 w1 K hk hK
      have D16 : OwnE w w1 (a1.tmps.getD 16 undef) [] ∧ ∃ g, (a1.tmps.getD 16 undef) = .slice (some ⟨g, 0, none⟩) 0 0 := hk.deps ⟨0, .data⟩ (by simp) rfl _ _ rfl rfl
      have D19 : RdE w (a1.tmps.getD 19 undef) (l.take q) := hk.deps ⟨3, .data⟩ (by simp) rfl _ _ rfl rfl
      obtain ⟨D16, g, D16'⟩ := D16
      have hbe : Below w.heap.size w w1 := below_trans HS.out (below_trans (by repeat (first | exact Below.refl _ _ | assumption | (refine Below.drew ?_) | (refine below_drewN' ?_ _) | (refine below_alloc' ?_ _))) hk.ext)
      obtain ⟨v', w', hrun, r1, r2⟩ := run_append_E0 w w1 _ _ _ g D16' D16 (D19.src hbe) hbe (by have := HN.out; rw [List.length_take]; omega) 44
      split
      · exact wp_append_run (s := .tmp 16) (x := .tmp 19) rfl hrun (hK _ _ r2 r1)
      · rename_i hw0; simp [Region.wanted] at hw0
      | 5, _ =>
      obtain rfl := Option.some.inj ho
      intro a1 w1 K hk hK
      have e0 : a1.tmps.getD 0 undef = .slice (some ⟨bk, ofs, none⟩) l.length c := hk.same 0 (by simp)
      simp [Region.wanted, Oper.wp, Act.eval, go_sem, e0, hw, h3, h4, h5, h6]
      exact hK _ _ (Below.refl _ _) rfl
      | 6, _ =>
      obtain rfl := Option.some.inj ho
      intro a1 w1 K hk hK
      have e5 : a1.tmps.getD 5 undef = .int .i64 (q : Nat) := hk.same 5 (by simp)
      simp [Region.wanted, Oper.wp, Act.eval, go_sem, e5, hw, h3, h4, h5, h6]
      exact hK _ _ (Below.refl _ _) rfl
      | 7, _ =>
      obtain rfl := Option.some.inj ho
      intro a1 w1 K hk hK
      have d22 : a1.tmps.getD 22 undef = .int .i64 (q : Nat) := hk.deps ⟨6, .data⟩ (by simp) rfl _ _ rfl rfl
      simp [Region.wanted, Oper.wp, Act.eval, go_sem, d22, hw, h3, h4, h5, h6]
      exact hK _ _ (Below.refl _ _) rfl
      | 8, _ =>
      obtain rfl := Option.some.inj ho
      intro a1 w1 K hk hK
      have d21 : a1.tmps.getD 21 undef = .slice (some ⟨bk, ofs, none⟩) l.length c := hk.deps ⟨5, .data⟩ (by simp) rfl _ _ rfl rfl
      have d23 : a1.tmps.getD 23 undef = .int .i64 ((q + 1 : Nat) : Int) := hk.deps ⟨7, .data⟩ (by simp) rfl _ _ rfl rfl
      simp [Region.wanted, Oper.wp, Act.eval, go_sem, d21, d23, hw, h3, h4, h5, h6]
      exact hK _ _ (by repeat (first | exact Below.refl _ _ | assumption | (refine Below.drew ?_) | (refine below_drewN' ?_ _) | (refine below_alloc' ?_ _))) HU.out
    · intro vs w3 hl hb3 hv
      match vs, hl with
      | [v0, v1, v2, v3, v4, v5, v6, v7, v8], _ =>
      have q0 : OwnE w w3 v0 [] ∧ ∃ g, v0 = .slice (some ⟨g, 0, none⟩) 0 0 := hv 0 (by omega)
      obtain rfl : v1 = .slice (some ⟨bk, ofs, none⟩) l.length c := hv 1 (by omega)
      obtain rfl : v2 = .int .i64 (q : Nat) := hv 2 (by omega)
      have q3 : RdE w v3 (l.take q) := hv 3 (by omega)
      have q4 : OwnE w w3 v4 (l.take q) := hv 4 (by omega)
      obtain rfl : v5 = .slice (some ⟨bk, ofs, none⟩) l.length c := hv 5 (by omega)
      obtain rfl : v6 = .int .i64 (q : Nat) := hv 6 (by omega)
      obtain rfl : v7 = .int .i64 ((q + 1 : Nat) : Int) := hv 7 (by omega)
      have q8 : RdE w v8 (l.drop (q + 1)) := hv 8 (by omega)
      clear hv
      simp only [putAll, List.take_succ_cons, List.take_zero, List.drop_succ_cons, List.drop_zero, Act.put, List.setIfInBounds_toArray, List.set_cons_succ, List.set_cons_zero]
      refine wpList_append_E rfl (.tmp 20) (.tmp 24) rfl w (l.take q) (l.drop (q + 1)) q4 (q8.src (below_trans HS.out hb3)) (below_trans HS.out hb3) (by have := HN.out; rw [List.length_take, List.length_drop]; omega) ?_
      intro v' w' hown hbw
      go_wp2_with fail
      go_ret
      rw [HE.out]
      exact RetE.mk (hown.rd hbw) hbw

theorem EtS.del {k : Nat} {l : List En} (h : EtS k l) (p : List Nat) : EtS k (delE p l) := ⟨h.et.del p, h.k40, Nat.le_trans Od.del_length h.short⟩
set_option maxRecDepth 8000 in
set_option maxHeartbeats 1000000 in
theorem rPut_any (k : Nat) (l : List En) (p : List Nat) (x : Nat) (v vp : Value) (w : World) (hv : RdE w v l) (hp : RdU w vp (pti p)) (hl : EtS k l) (hs : PtS k p) :
    Calls Tryz.prog 52 #[v, vp, .int .u64 (x : Nat)] w fun e w' => RetE w (insE p x l) e w' := by
  have HD := Lib.hid (rDel_any k l p v vp w hv hp hl hs)
  have HQ := Lib.hid (fun (v : Value) (w : World) (hv : RdE w v (delE p l)) (hp : RdU w vp (pti p)) => rPlace_any k (delE p l) p v vp w hv hp (hl.del p) hs)
  have HE := Lib.hid (show insE p x l = (delE p l).take (Od.place En.key (pkey p) (delE p l)).1 ++ ⟨p, x⟩ :: (delE p l).drop (Od.place En.key (pkey p) (delE p l)).1 from (Od.ins_place (key := En.key) (x := ⟨p, x⟩) hl.et.asc).trans (by rw [List.append_assoc]; rfl))
  have HN := Lib.hid (And.intro (hl.del p).short (Od.place_le En.key (pkey p) (delE p l)))
  have HP := Lib.hid hp
  obtain ⟨A0, cc, rfl, hx0⟩ := RdU.point hp
  clear hx0
  generalize (Od.place En.key (pkey p) (delE p l)).1 = q at *
  generalize (Od.place En.key (pkey p) (delE p l)).2 = fl at *
  generalize delE p l = m at *
  clear hl hs hv hp
  go_enter Tryz.func52, Tryz.ntmps52
  go_wp2_with fail
  refine HD.out.mono ?_
  rintro e w1 ⟨v1, rfl, hv1, hb1⟩
  have HB := Lib.hid hb1
  go_wp2_with fail
  refine (HQ.out _ _ hv1 (HP.out.below HB.out)).mono ?_
  rintro e w2 ⟨rfl, hb2⟩
  have HB2 := Lib.hid (HB.out.trans (hb2.mono HB.out.size))
  have HV := Lib.hid (hv1.below hb2)
  have HP2 := Lib.hid (HP.out.below HB2.out)
  clear hb2
  obtain ⟨A, c, rfl, hcap, hx⟩ := hv1
  have h3 : q ≤ c := by have := HN.out; omega
  have h4 : (q : Int) ≤ (m.length : Int) := by have := HN.out; omega
  by_cases hc : 0 < c
  · obtain ⟨bk, ofs, rfl⟩ := hcap.2.2 hc
    clear hcap hx hc hb1
    have HT := Lib.hid (HV.out.take q HN.out.2)
    have HU := Lib.hid (HV.out.drop' q HN.out.2)
    by_cases hcq : c = q
    · obtain rfl : q = c := hcq.symm
      rw [if_pos rfl, Nat.sub_self] at HU
      go_wp2_with ((at_builtin; refine wpList_append_E rfl (.tmp 19) (.tmp 22) rfl w2 [] (m.take q) ?_ ?_ ?_ ?_ ?_))
      · exact OwnE.lit (Nat.le_refl _) rfl
      · exact HT.out.src (by repeat (first | exact Below.refl _ _ | assumption | (refine Below.drew ?_) | (refine below_drewN' ?_ _) | (refine below_alloc' ?_ _)))
      · exact (by repeat (first | exact Below.refl _ _ | assumption | (refine Below.drew ?_) | (refine below_drewN' ?_ _) | (refine below_alloc' ?_ _)))
      · have := HN.out; simp; try omega
      intro v3 w3 hown3 hb3
      have HB3 := Lib.hid hb3
      clear hb3
      go_wp2_with ((at_builtin; refine wpList_append_E rfl (.tmp 23) (.tmp 27) rfl w2 (m.take q) [⟨p, x⟩] ?_ ?_ ?_ ?_ ?_))
      · exact hown3.alloc _
      · exact SrcE.one (by simp [go_sem]) HP2.out (by simp [go_sem])
      · have h := HB3.out; exact (by repeat (first | exact Below.refl _ _ | assumption | (refine Below.drew ?_) | (refine below_drewN' ?_ _) | (refine below_alloc' ?_ _)))
      · have := HN.out; simp; try omega
      intro v4 w4 hown4 hb4
      have HB4 := Lib.hid hb4
      clear hb4
      go_wp2_with ((at_builtin; refine wpList_append_E rfl (.tmp 29) (.tmp 32) rfl w2 (m.take q ++ [⟨p, x⟩]) (m.drop q) ?_ ?_ ?_ ?_ ?_))
      · exact hown4
      · exact HU.out.src HB4.out
      · exact HB4.out
      · have := HN.out; simp; try omega
      intro v5 w5 hown5 hb5
      go_wp2_with fail
      go_ret
      rw [HE.out]
      exact RetE.mk (by simpa using hown5.rd hb5) (HB2.out.trans (hb5.mono HB2.out.size))
    · rw [if_neg hcq] at HU
      go_wp2_with ((at_builtin; refine wpList_append_E rfl (.tmp 19) (.tmp 22) rfl w2 [] (m.take q) ?_ ?_ ?_ ?_ ?_))
      · exact OwnE.lit (Nat.le_refl _) rfl
      · exact HT.out.src (by repeat (first | exact Below.refl _ _ | assumption | (refine Below.drew ?_) | (refine below_drewN' ?_ _) | (refine below_alloc' ?_ _)))
      · exact (by repeat (first | exact Below.refl _ _ | assumption | (refine Below.drew ?_) | (refine below_drewN' ?_ _) | (refine below_alloc' ?_ _)))
      · have := HN.out; simp; try omega
      intro v3 w3 hown3 hb3
      have HB3 := Lib.hid hb3
      clear hb3
      go_wp2_with ((at_builtin; refine wpList_append_E rfl (.tmp 23) (.tmp 27) rfl w2 (m.take q) [⟨p, x⟩] ?_ ?_ ?_ ?_ ?_))
      · exact hown3.alloc _
      · exact SrcE.one (by simp [go_sem]) HP2.out (by simp [go_sem])
      · have h := HB3.out; exact (by repeat (first | exact Below.refl _ _ | assumption | (refine Below.drew ?_) | (refine below_drewN' ?_ _) | (refine below_alloc' ?_ _)))
      · have := HN.out; simp; try omega
      intro v4 w4 hown4 hb4
      have HB4 := Lib.hid hb4
      clear hb4
      go_wp2_with ((at_builtin; refine wpList_append_E rfl (.tmp 29) (.tmp 32) rfl w2 (m.take q ++ [⟨p, x⟩]) (m.drop q) ?_ ?_ ?_ ?_ ?_))
      · exact hown4
      · exact HU.out.src HB4.out
      · exact HB4.out
      · have := HN.out; simp; try omega
      intro v5 w5 hown5 hb5
      go_wp2_with fail
      go_ret
      rw [HE.out]
      exact RetE.mk (by simpa using hown5.rd hb5) (HB2.out.trans (hb5.mono HB2.out.size))
  · obtain rfl : c = 0 := by omega
    obtain rfl : m = [] := List.eq_nil_of_length_eq_zero (by omega)
    obtain rfl : q = 0 := by omega
    clear hcap hx hc hb1 h3 h4
    simp only [List.length_nil] at *
    go_wp2_with ((at_builtin; refine wpList_append_E rfl (.tmp 19) (.tmp 22) rfl w2 [] (([] : List En)) ?_ ?_ ?_ ?_ ?_))
    · exact OwnE.lit (Nat.le_refl _) rfl
    · exact (RdE.nil w2 A 0 (by simp [maxLen]) (fun h => absurd h (by omega))).src (by repeat (first | exact Below.refl _ _ | assumption | (refine Below.drew ?_) | (refine below_drewN' ?_ _) | (refine below_alloc' ?_ _)))
    · exact (by repeat (first | exact Below.refl _ _ | assumption | (refine Below.drew ?_) | (refine below_drewN' ?_ _) | (refine below_alloc' ?_ _)))
    · have := HN.out; simp; try omega
    intro v3 w3 hown3 hb3
    have HB3 := Lib.hid hb3
    clear hb3
    go_wp2_with ((at_builtin; refine wpList_append_E rfl (.tmp 23) (.tmp 27) rfl w2 (([] : List En)) [⟨p, x⟩] ?_ ?_ ?_ ?_ ?_))
    · exact hown3.alloc _
    · exact SrcE.one (by simp [go_sem]) HP2.out (by simp [go_sem])
    · have h := HB3.out; exact (by repeat (first | exact Below.refl _ _ | assumption | (refine Below.drew ?_) | (refine below_drewN' ?_ _) | (refine below_alloc' ?_ _)))
    · have := HN.out; simp; try omega
    intro v4 w4 hown4 hb4
    have HB4 := Lib.hid hb4
    clear hb4
    go_wp2_with ((at_builtin; refine wpList_append_E rfl (.tmp 29) (.tmp 32) rfl w2 (([] : List En) ++ [⟨p, x⟩]) (([] : List En)) ?_ ?_ ?_ ?_ ?_))
    · exact hown4
    · exact (RdE.nil w2 A 0 (by simp [maxLen]) (fun h => absurd h (by omega))).src HB4.out
    · exact HB4.out
    · have := HN.out; simp; try omega
    intro v5 w5 hown5 hb5
    go_wp2_with fail
    go_ret
    rw [HE.out]
    exact RetE.mk (by simpa using hown5.rd hb5) (HB2.out.trans (hb5.mono HB2.out.size))
end Go.Proofs.YtdkomhmciihkiaaGreat
