/-
  Texts that the proof of PackTrees leans on, part 6: contracts of functions, and plain laws.
-/
import Derived.Test.YtdkomhmciihkiaaGreatMPackTrees5
/-! RefW -/
namespace Go.Proofs.YtdkomhmciihkiaaGreat
open Go.RowKit
set_option linter.unusedVariables false
set_option linter.unusedSimpArgs false
set_option maxRecDepth 100000

/-- a shape's rows, read -/
def PtR (w : World) : PtS' := fun u pl s => RdU w u (pti s.pre) ∧ Sl w pl (s.pl.map fun (x : Nat) => Value.int .i64 (x : Nat))
theorem PtK.rd {W0 W w : World} (hb : Below W0.heap.size W0 w) : ∀ u p s, PtK W0 W w u p s → PtR w u p s := fun u p s h => ⟨h.1.elim (·.below hb) (·.rd), h.2.rd⟩
theorem PtR.below {w w' : World} (hb : Below w.heap.size w w') : ∀ u p s, PtR w u p s → PtR w' u p s := fun u p s h => ⟨h.1.below hb, h.2.below hb⟩
set_option maxHeartbeats 2000000 in
theorem rSameShapes (w : World) (x y : Value) (l : List Sh) (hx : RdS (PtR w) w x l) (hy : RdS (PtR w) w y l) (hl : l.length ≤ 100000) (hs : ∀ s ∈ l, s.pre.length ≤ 100 ∧ s.pl.length ≤ 100000) :
    Calls Tryz.prog 76 #[x, y] w fun e w' => e = .returned (.bool true) ∧ Below w.heap.size w w' := by
  obtain ⟨A1, c1, rfl, hx⟩ := hx
  obtain ⟨A2, c2, rfl, hy⟩ := hy
  have HX := Lib.hid (And.intro hx hy)
  have HL := Lib.hid (And.intro hl hs)
  have hn : ((l.length : Int) != (l.length : Int)) = false := by simp
  clear hx hy hl hs
  go_enter Tryz.func76, Tryz.ntmps76
  go_wp2_with fail
  go_loopw [5] (fun iv wr => ∃ j : Nat, j ≤ l.length ∧ iv = .int .i64 (j : Nat) ∧ Below w.heap.size w wr) (fun iv _ => l.length - (intOf iv).toNat)
  case atStart => exact ⟨0, Nat.zero_le _, rfl, (by repeat (first | exact Below.refl _ _ | (refine Below.drew ?_) | (refine below_drewN' ?_ _) | (refine below_alloc' ?_ _) | (refine Below.setCell ?_ (by first | exact Nat.le_refl _ | (simp; done) | (simp; omega)) _)))⟩
  case round =>
    obtain ⟨j, hj, rfl, hb⟩ := hrel
    have HB := Lib.hid hb
    by_cases hlt : j < l.length
    · have h3 : (j : Int) < (l.length : Int) := by omega
      have h5 : (0 : Int) ≤ (j : Int) := by omega
      have HW := Lib.hid (show wrap64 ((j : Int) + 1) = ((j + 1 : Nat) : Int) by have := HL.out.1; unfold wrap64; omega)
      obtain ⟨b1, rfl, hc1⟩ := HX.out.1 (by omega)
      obtain ⟨b2, rfl, hc2⟩ := HX.out.2 (by omega)
      obtain ⟨u1, pl1, p0, p1, p2, p3, p4, pt1⟩ := hc1 j hlt
      obtain ⟨u2, pl2, q0, q1, q2, q3, q4, pt2⟩ := hc2 j hlt
      have hms := HL.out.2 _ (List.getElem_mem hlt)
      replace p0 := Below.keeps hb _ _ p0
      replace p1 := Below.keeps hb _ _ p1
      replace p2 := Below.keeps hb _ _ p2
      replace p3 := Below.keeps hb _ _ p3
      replace p4 := Below.keeps hb _ _ p4
      replace q0 := Below.keeps hb _ _ q0
      replace q1 := Below.keeps hb _ _ q1
      replace q2 := Below.keeps hb _ _ q2
      replace q3 := Below.keeps hb _ _ q3
      replace q4 := Below.keeps hb _ _ q4
      have HSS := Lib.hid (fun w' (hb2 : Below wr.heap.size wr w') => rSameShape w' _ _ l[j] ⟨u1, pl1, rfl, (pt1.1.below hb).below hb2, (pt1.2.below hb).below hb2⟩ ⟨u2, pl2, rfl, (pt2.1.below hb).below hb2, (pt2.2.below hb).below hb2⟩ hms.1 hms.2)
      have hl1 : b1 < wr.heap.size := World.block_lt_of_cell? wr _ p0
      have hl2 : b2 < wr.heap.size := World.block_lt_of_cell? wr _ q0
      clear pt1 pt2 hms hc1 hc2 hb
      generalize l[j] = s at *
      go_wp2_with fail
      refine wp_region_vals 9 [fun z9 _ => z9 = .slice (some ⟨b1, 0, none⟩) l.length c1,
        fun z9 _ => z9 = .int .i64 (j : Nat),
        fun z9 _ => z9 = .pointer (some ⟨b1, j * 5, none⟩),
        fun z9 _ => z9 = .agg #[.int .i64 s.lv, u1, pl1, .bool s.dense, .int .u64 (s.v : Nat)],
        fun z9 _ => z9 = .slice (some ⟨b2, 0, none⟩) l.length c2,
        fun z9 _ => z9 = .int .i64 (j : Nat),
        fun z9 _ => z9 = .pointer (some ⟨b2, j * 5, none⟩),
        fun z9 _ => z9 = .agg #[.int .i64 s.lv, u2, pl2, .bool s.dense, .int .u64 (s.v : Nat)],
        fun z9 _ => z9 = .bool true]
        (by kernel_rfl) (by kernel_rfl) (by kernel_rfl) (by kernel_rfl) ?_ ?_ ?_
      · intro V hV v w1 w2 h hb
        simp only [List.mem_cons, List.not_mem_nil, or_false] at hV
        rcases hV with rfl | rfl | rfl | rfl | rfl | rfl | rfl | rfl | rfl
        all_goals first | exact h | (exact h)
      · intro iq oq hiq hoq
        match iq, hiq with
        | 0, _ =>
        obtain rfl := Option.some.inj hoq
        intro a1 w1 K hk hK
        have e0 : a1.tmps.getD 0 undef = .slice (some ⟨b1, 0, none⟩) l.length c1 := hk.same 0 (by simp)
        simp [Region.wanted, Oper.wp, Act.eval, go_sem, e0, p0, p1, p2, p3, p4, q0, q1, q2, q3, q4, hl1, hl2, h3, h5]
        exact hK _ _ (Below.refl _ _) rfl
        | 1, _ =>
        obtain rfl := Option.some.inj hoq
        intro a1 w1 K hk hK
        have e5 : a1.tmps.getD 5 undef = .int .i64 (j : Nat) := hk.same 5 (by simp)
        simp [Region.wanted, Oper.wp, Act.eval, go_sem, e5, p0, p1, p2, p3, p4, q0, q1, q2, q3, q4, hl1, hl2, h3, h5]
        exact hK _ _ (Below.refl _ _) rfl
        | 2, _ =>
        obtain rfl := Option.some.inj hoq
        intro a1 w1 K hk hK
        have d17 : a1.tmps.getD 17 undef = .slice (some ⟨b1, 0, none⟩) l.length c1 := hk.deps ⟨0, .data⟩ (by simp) rfl _ _ rfl rfl
        have d18 : a1.tmps.getD 18 undef = .int .i64 (j : Nat) := hk.deps ⟨1, .data⟩ (by simp) rfl _ _ rfl rfl
        simp [Region.wanted, Oper.wp, Act.eval, go_sem, d17, d18, p0, p1, p2, p3, p4, q0, q1, q2, q3, q4, hl1, hl2, h3, h5]
        exact hK _ _ (Below.refl _ _) rfl
        | 3, _ =>
        obtain rfl := Option.some.inj hoq
        intro a1 w1 K hk hK
        have d19 : a1.tmps.getD 19 undef = .pointer (some ⟨b1, j * 5, none⟩) := hk.deps ⟨2, .data⟩ (by simp) rfl _ _ rfl rfl
        have c0 : w1.cell? ⟨b1, j * 5, none⟩ = some (.int .i64 s.lv) := Below.keeps hk.ext _ _ (by simp [go_sem, p0, p1, p2, p3, p4, q0, q1, q2, q3, q4, hl1, hl2, h3, h5])
        have c1 : w1.cell? ⟨b1, j * 5 + 1, none⟩ = some (u1) := Below.keeps hk.ext _ _ (by simp [go_sem, p0, p1, p2, p3, p4, q0, q1, q2, q3, q4, hl1, hl2, h3, h5])
        have c2 : w1.cell? ⟨b1, j * 5 + 2, none⟩ = some (pl1) := Below.keeps hk.ext _ _ (by simp [go_sem, p0, p1, p2, p3, p4, q0, q1, q2, q3, q4, hl1, hl2, h3, h5])
        have c3 : w1.cell? ⟨b1, j * 5 + 3, none⟩ = some (.bool s.dense) := Below.keeps hk.ext _ _ (by simp [go_sem, p0, p1, p2, p3, p4, q0, q1, q2, q3, q4, hl1, hl2, h3, h5])
        have c4 : w1.cell? ⟨b1, j * 5 + 4, none⟩ = some (.int .u64 (s.v : Nat)) := Below.keeps hk.ext _ _ (by simp [go_sem, p0, p1, p2, p3, p4, q0, q1, q2, q3, q4, hl1, hl2, h3, h5])
        have c5 : w1.cell? ⟨b2, j * 5, none⟩ = some (.int .i64 s.lv) := Below.keeps hk.ext _ _ (by simp [go_sem, p0, p1, p2, p3, p4, q0, q1, q2, q3, q4, hl1, hl2, h3, h5])
        have c6 : w1.cell? ⟨b2, j * 5 + 1, none⟩ = some (u2) := Below.keeps hk.ext _ _ (by simp [go_sem, p0, p1, p2, p3, p4, q0, q1, q2, q3, q4, hl1, hl2, h3, h5])
        have c7 : w1.cell? ⟨b2, j * 5 + 2, none⟩ = some (pl2) := Below.keeps hk.ext _ _ (by simp [go_sem, p0, p1, p2, p3, p4, q0, q1, q2, q3, q4, hl1, hl2, h3, h5])
        have c8 : w1.cell? ⟨b2, j * 5 + 3, none⟩ = some (.bool s.dense) := Below.keeps hk.ext _ _ (by simp [go_sem, p0, p1, p2, p3, p4, q0, q1, q2, q3, q4, hl1, hl2, h3, h5])
        have c9 : w1.cell? ⟨b2, j * 5 + 4, none⟩ = some (.int .u64 (s.v : Nat)) := Below.keeps hk.ext _ _ (by simp [go_sem, p0, p1, p2, p3, p4, q0, q1, q2, q3, q4, hl1, hl2, h3, h5])
        simp [Region.wanted, Oper.wp, Act.eval, go_sem, d19, c0, c1, c2, c3, c4, c5, c6, c7, c8, c9, p0, p1, p2, p3, p4, q0, q1, q2, q3, q4, hl1, hl2, h3, h5]
        exact hK _ _ (Below.refl _ _) rfl
        | 4, _ =>
        obtain rfl := Option.some.inj hoq
        intro a1 w1 K hk hK
        have e1 : a1.tmps.getD 1 undef = .slice (some ⟨b2, 0, none⟩) l.length c2 := hk.same 1 (by simp)
        simp [Region.wanted, Oper.wp, Act.eval, go_sem, e1, p0, p1, p2, p3, p4, q0, q1, q2, q3, q4, hl1, hl2, h3, h5]
        exact hK _ _ (Below.refl _ _) rfl
        | 5, _ =>
        obtain rfl := Option.some.inj hoq
        intro a1 w1 K hk hK
        have e5 : a1.tmps.getD 5 undef = .int .i64 (j : Nat) := hk.same 5 (by simp)
        simp [Region.wanted, Oper.wp, Act.eval, go_sem, e5, p0, p1, p2, p3, p4, q0, q1, q2, q3, q4, hl1, hl2, h3, h5]
        exact hK _ _ (Below.refl _ _) rfl
        | 6, _ =>
        obtain rfl := Option.some.inj hoq
        intro a1 w1 K hk hK
        have d21 : a1.tmps.getD 21 undef = .slice (some ⟨b2, 0, none⟩) l.length c2 := hk.deps ⟨4, .data⟩ (by simp) rfl _ _ rfl rfl
        have d22 : a1.tmps.getD 22 undef = .int .i64 (j : Nat) := hk.deps ⟨5, .data⟩ (by simp) rfl _ _ rfl rfl
        simp [Region.wanted, Oper.wp, Act.eval, go_sem, d21, d22, p0, p1, p2, p3, p4, q0, q1, q2, q3, q4, hl1, hl2, h3, h5]
        exact hK _ _ (Below.refl _ _) rfl
        | 7, _ =>
        obtain rfl := Option.some.inj hoq
        intro a1 w1 K hk hK
        have d23 : a1.tmps.getD 23 undef = .pointer (some ⟨b2, j * 5, none⟩) := hk.deps ⟨6, .data⟩ (by simp) rfl _ _ rfl rfl
        have c0 : w1.cell? ⟨b1, j * 5, none⟩ = some (.int .i64 s.lv) := Below.keeps hk.ext _ _ (by simp [go_sem, p0, p1, p2, p3, p4, q0, q1, q2, q3, q4, hl1, hl2, h3, h5])
        have c1 : w1.cell? ⟨b1, j * 5 + 1, none⟩ = some (u1) := Below.keeps hk.ext _ _ (by simp [go_sem, p0, p1, p2, p3, p4, q0, q1, q2, q3, q4, hl1, hl2, h3, h5])
        have c2 : w1.cell? ⟨b1, j * 5 + 2, none⟩ = some (pl1) := Below.keeps hk.ext _ _ (by simp [go_sem, p0, p1, p2, p3, p4, q0, q1, q2, q3, q4, hl1, hl2, h3, h5])
        have c3 : w1.cell? ⟨b1, j * 5 + 3, none⟩ = some (.bool s.dense) := Below.keeps hk.ext _ _ (by simp [go_sem, p0, p1, p2, p3, p4, q0, q1, q2, q3, q4, hl1, hl2, h3, h5])
        have c4 : w1.cell? ⟨b1, j * 5 + 4, none⟩ = some (.int .u64 (s.v : Nat)) := Below.keeps hk.ext _ _ (by simp [go_sem, p0, p1, p2, p3, p4, q0, q1, q2, q3, q4, hl1, hl2, h3, h5])
        have c5 : w1.cell? ⟨b2, j * 5, none⟩ = some (.int .i64 s.lv) := Below.keeps hk.ext _ _ (by simp [go_sem, p0, p1, p2, p3, p4, q0, q1, q2, q3, q4, hl1, hl2, h3, h5])
        have c6 : w1.cell? ⟨b2, j * 5 + 1, none⟩ = some (u2) := Below.keeps hk.ext _ _ (by simp [go_sem, p0, p1, p2, p3, p4, q0, q1, q2, q3, q4, hl1, hl2, h3, h5])
        have c7 : w1.cell? ⟨b2, j * 5 + 2, none⟩ = some (pl2) := Below.keeps hk.ext _ _ (by simp [go_sem, p0, p1, p2, p3, p4, q0, q1, q2, q3, q4, hl1, hl2, h3, h5])
        have c8 : w1.cell? ⟨b2, j * 5 + 3, none⟩ = some (.bool s.dense) := Below.keeps hk.ext _ _ (by simp [go_sem, p0, p1, p2, p3, p4, q0, q1, q2, q3, q4, hl1, hl2, h3, h5])
        have c9 : w1.cell? ⟨b2, j * 5 + 4, none⟩ = some (.int .u64 (s.v : Nat)) := Below.keeps hk.ext _ _ (by simp [go_sem, p0, p1, p2, p3, p4, q0, q1, q2, q3, q4, hl1, hl2, h3, h5])
        simp [Region.wanted, Oper.wp, Act.eval, go_sem, d23, c0, c1, c2, c3, c4, c5, c6, c7, c8, c9, p0, p1, p2, p3, p4, q0, q1, q2, q3, q4, hl1, hl2, h3, h5]
        exact hK _ _ (Below.refl _ _) rfl
        | 8, _ =>
        obtain rfl := Option.some.inj hoq
        intro a1 w1 K hk hK
        have d20 : a1.tmps.getD 20 undef = .agg #[.int .i64 s.lv, u1, pl1, .bool s.dense, .int .u64 (s.v : Nat)] := hk.deps ⟨3, .data⟩ (by simp) rfl _ _ rfl rfl
        have d24 : a1.tmps.getD 24 undef = .agg #[.int .i64 s.lv, u2, pl2, .bool s.dense, .int .u64 (s.v : Nat)] := hk.deps ⟨7, .data⟩ (by simp) rfl _ _ rfl rfl
        simp [Region.wanted, Oper.wp, Act.eval, go_sem, d20, d24, p0, p1, p2, p3, p4, q0, q1, q2, q3, q4, hl1, hl2, h3, h5]
        refine (HSS.out _ (below_trans (by repeat (first | exact Below.refl _ _ | (refine Below.drew ?_) | (refine below_drewN' ?_ _) | (refine below_alloc' ?_ _) | (refine Below.setCell ?_ (by first | exact Nat.le_refl _ | (simp; done) | (simp; omega)) _))) hk.ext)).mono ?_
        rintro e w9 ⟨rfl, hb9⟩
        exact hK _ _ hb9 rfl
      · intro vs w3 hl hb3 hv
        match vs, hl with
        | [v0, v1, v2, v3, v4, v5, v6, v7, v8], _ =>
        obtain rfl : v0 = .slice (some ⟨b1, 0, none⟩) l.length c1 := hv 0 (by omega)
        obtain rfl : v1 = .int .i64 (j : Nat) := hv 1 (by omega)
        obtain rfl : v2 = .pointer (some ⟨b1, j * 5, none⟩) := hv 2 (by omega)
        obtain rfl : v3 = .agg #[.int .i64 s.lv, u1, pl1, .bool s.dense, .int .u64 (s.v : Nat)] := hv 3 (by omega)
        obtain rfl : v4 = .slice (some ⟨b2, 0, none⟩) l.length c2 := hv 4 (by omega)
        obtain rfl : v5 = .int .i64 (j : Nat) := hv 5 (by omega)
        obtain rfl : v6 = .pointer (some ⟨b2, j * 5, none⟩) := hv 6 (by omega)
        obtain rfl : v7 = .agg #[.int .i64 s.lv, u2, pl2, .bool s.dense, .int .u64 (s.v : Nat)] := hv 7 (by omega)
        obtain rfl : v8 = .bool true := hv 8 (by omega)
        clear hv
        simp only [putAll, List.take_succ_cons, List.take_zero, List.drop_succ_cons, List.drop_zero, Act.put, List.setIfInBounds_toArray, List.set_cons_succ, List.set_cons_zero]
        have hb4 : Below wr.heap.size wr w3 := below_trans (by repeat (first | exact Below.refl _ _ | (refine Below.drew ?_) | (refine below_drewN' ?_ _) | (refine below_alloc' ?_ _) | (refine Below.setCell ?_ (by first | exact Nat.le_refl _ | (simp; done) | (simp; omega)) _))) hb3
        have HB4 := Lib.hid (HB.out.trans (hb4.mono HB.out.size))
        clear hb3 hb4
        go_wp2_with fail
        go_roundw
        case rel => exact ⟨j + 1, by omega, (by first | rw [HW.out] | rfl | simp), HB4.out⟩
        case measure => (first | (rw [intOf_of' HW.out, intOf_of' rfl]; omega) | (simp [intOf]; omega) | (simp [intOf] <;> omega))
    · have h3 : ¬ (j : Int) < (l.length : Int) := by omega
      clear hb
      go_wp2_with fail
      go_ret
      exact ⟨rfl, HB.out⟩
end Go.Proofs.YtdkomhmciihkiaaGreat
/-! RefX -/
namespace Go.Proofs.YtdkomhmciihkiaaGreat
open Go.RowKit
set_option linter.unusedVariables false
set_option linter.unusedSimpArgs false
set_option maxRecDepth 100000

/-- the sums that are being made: the block's cells -/
def SB (w : World) (G : Nat) (S : Sm) : Prop := w.heap[G]? = some (.cells #[.int .u64 (S.n : Nat), .int .u64 (S.s : Nat), .int .u64 (S.mn : Nat), .int .u64 (S.mx : Nat)] 217 (0, 0))
theorem SB.cell {w : World} {G : Nat} {S : Sm} (h : SB w G S) (i : Nat) : w.cell? ⟨G, i, none⟩ = (#[.int .u64 (S.n : Nat), .int .u64 (S.s : Nat), .int .u64 (S.mn : Nat), .int .u64 (S.mx : Nat)] : Array Value)[i]? := by
  unfold SB at h; simp [World.cell?, h]
theorem SB.thaw {w : World} {G : Nat} {S : Sm} (h : SB w G S) (i : Nat) : w.frozen? ⟨G, i, none⟩ = false := by unfold SB at h; simp [World.frozen?, h]
/-- one more -/
def Sm.step (S : Sm) (j v : Nat) : Sm := ⟨(S.n + 1) % 2 ^ 64, (S.s + v) % 2 ^ 64, if j = 0 ∨ v < S.mn then v else S.mn, if S.mx < v then v else S.mx⟩
theorem sums_take {l : List En} (hv : ∀ e ∈ l, e.v < 2 ^ 64) (j : Nat) (hj : j < l.length) : sumsL (l.take (j + 1)) = (sumsL (l.take j)).step j l[j].v := by
  rw [← List.take_append_getElem hj]
  by_cases h0 : j = 0
  · subst h0
    have := hv _ (List.getElem_mem hj)
    simp only [List.take_zero, List.nil_append]
    show Sm.of l[0].v = Sm.step ⟨0, 0, 0, 0⟩ 0 l[0].v
    unfold Sm.step Sm.of
    simp
    omega
  · rw [sumsL_append (List.ne_nil_of_length_pos (by rw [List.length_take]; omega)) (by simp)]
    show (sumsL (l.take j)).add (Sm.of l[j].v) = _
    unfold Sm.step Sm.add Sm.of
    simp only [Sm.mk.injEq, true_and]
    refine ⟨?_, ?_⟩
    · split <;> omega
    · split <;> omega
set_option maxHeartbeats 4000000 in
theorem rSums_any (w : World) (l : List En) (v : Value) (hv : RdE w v l) (ho : ∀ e ∈ l, e.v < 2 ^ 64) (hl : l.length ≤ 1000) :
    Calls Tryz.prog 140 #[v] w fun e w' => e = .returned (smV (sumsL l)) ∧ Below w.heap.size w w' := by
  obtain ⟨A, c, rfl, _, hx⟩ := hv
  have HX := Lib.hid hx
  have HD := Lib.hid (And.intro ho hl)
  clear hx ho hl
  go_enter Tryz.func140, Tryz.ntmps140
  go_wp2_with fail
  go_loopw [4, 5] (fun iv _ wr => ∃ j : Nat, j ≤ l.length ∧ iv = .int .i64 (j : Nat) ∧ SB wr (w.heap.size + 1) (sumsL (l.take j)) ∧ SB wr w.heap.size ⟨0, 0, 0, 0⟩ ∧ Below w.heap.size w wr) (fun iv _ _ => l.length - (intOf iv).toNat)
  case atStart =>
    have z := alloc_blk w (.cells #[.int .u64 0, .int .u64 0, .int .u64 0, .int .u64 0] 217)
    have h := alloc_blk (w.alloc (.cells #[.int .u64 0, .int .u64 0, .int .u64 0, .int .u64 0] 217)) (.cells #[.int .u64 0, .int .u64 0, .int .u64 0, .int .u64 0] 217)
    have z2 := ((below_alloc' (Below.refl (w.alloc (.cells #[.int .u64 0, .int .u64 0, .int .u64 0, .int .u64 0] 217)).heap.size _) (.cells #[.int .u64 0, .int .u64 0, .int .u64 0, .int .u64 0] 217)).block w.heap.size (by simp)).trans z
    rw [World.size_alloc] at h
    exact ⟨0, Nat.zero_le _, rfl, h, z2, (by repeat (first | exact Below.refl _ _ | (refine Below.drew ?_) | (refine below_drewN' ?_ _) | (refine below_alloc' ?_ _) | (refine Below.setCell ?_ (by first | exact Nat.le_refl _ | (simp; done) | (simp; omega)) _)))⟩
  case round =>
    obtain ⟨j, hj, rfl, hG, hR, hb⟩ := hrel
    have HB := Lib.hid (And.intro hG (And.intro hR hb))
    have hlG := kr_lt hG
    have hlR := kr_lt hR
    have g0 := hG.cell 0
    have g1 := hG.cell 1
    have g2 := hG.cell 2
    have g3 := hG.cell 3
    have t0 := hG.thaw 0
    have t1 := hG.thaw 1
    have t2 := hG.thaw 2
    have t3 := hG.thaw 3
    by_cases hlt : j < l.length
    · have h3 : (j : Int) < (l.length : Int) := by omega
      have h5 : (0 : Int) ≤ (j : Int) := by omega
      have HW := Lib.hid (show wrap64 ((j : Int) + 1) = ((j + 1 : Nat) : Int) by have := HD.out.2; unfold wrap64; omega)
      obtain ⟨b2, o2, rfl, hc⟩ := HX.out (by omega)
      obtain ⟨u, k0, ku, k1⟩ := hc j hlt
      replace k1 := Below.keeps hb _ _ k1
      have hlb : b2 < wr.heap.size := World.block_lt_of_cell? wr _ k1
      have HS := Lib.hid (sums_take HD.out.1 j hlt)
      obtain ⟨S, hS⟩ : ∃ S, sumsL (l.take j) = S := ⟨_, rfl⟩
      rw [hS] at g0 g1 g2 g3 HS HB
      simp at g0 g1 g2 g3
      have w1 : IntKind.u64.wrap ((S.n : Int) + 1) = (((S.n + 1) % 2 ^ 64 : Nat) : Int) := wrap_add_nat S.n 1
      have w2 := wrap_add_nat S.s l[j].v
      obtain ⟨x, hx⟩ : ∃ x, l[j].v = x := ⟨_, rfl⟩
      rw [hx] at k1 w2 HS
      clear hx hS hc k0 ku hG hR hb
      by_cases hmn : j = 0 ∨ x < S.mn
      · by_cases hjz : j = 0
        · have hj0 : ((j : Int) == 0) = true := by simp; omega
          clear hjz
          by_cases hmx : S.mx < x
          · have hd : (x : Int) > (S.mx : Int) := by omega
            go_wp2_with fail
            go_roundw
            case rel =>
              refine ⟨j + 1, by omega, (by first | rw [HW.out] | rfl | simp), ?_, (kr_far (by omega)).trans ((kr_far (by omega)).trans ((kr_far (by omega)).trans ((kr_far (by omega)).trans (HB.out.2.1)))), ((((HB.out.2.2).setCell (p := ⟨w.heap.size + 1, 2, none⟩) (Nat.le_succ _) _).setCell (p := ⟨w.heap.size + 1, 3, none⟩) (Nat.le_succ _) _).setCell (p := ⟨w.heap.size + 1, 0, none⟩) (Nat.le_succ _) _).setCell (p := ⟨w.heap.size + 1, 1, none⟩) (Nat.le_succ _) _⟩
              rw [HS.out]
              unfold Sm.step
              rw [if_pos hmn, if_pos hmx]
              exact kr_set (k := 1) (kr_set (k := 0) (kr_set (k := 3) (kr_set (k := 2) (HB.out.1))))
            case measure => (first | (rw [intOf_of' HW.out, intOf_of' rfl]; omega) | (simp [intOf]; omega) | (simp [intOf] <;> omega))
          · have hd : ¬ (x : Int) > (S.mx : Int) := by omega
            go_wp2_with fail
            go_roundw
            case rel =>
              refine ⟨j + 1, by omega, (by first | rw [HW.out] | rfl | simp), ?_, (kr_far (by omega)).trans ((kr_far (by omega)).trans ((kr_far (by omega)).trans (HB.out.2.1))), (((HB.out.2.2).setCell (p := ⟨w.heap.size + 1, 2, none⟩) (Nat.le_succ _) _).setCell (p := ⟨w.heap.size + 1, 0, none⟩) (Nat.le_succ _) _).setCell (p := ⟨w.heap.size + 1, 1, none⟩) (Nat.le_succ _) _⟩
              rw [HS.out]
              unfold Sm.step
              rw [if_pos hmn, if_neg hmx]
              exact kr_set (k := 1) (kr_set (k := 0) (kr_set (k := 2) (HB.out.1)))
            case measure => (first | (rw [intOf_of' HW.out, intOf_of' rfl]; omega) | (simp [intOf]; omega) | (simp [intOf] <;> omega))
        · have hj0 : ((j : Int) == 0) = false := by simp; omega
          have hxm : (x : Int) < (S.mn : Int) := by omega
          by_cases hmx : S.mx < x
          · have hd : (x : Int) > (S.mx : Int) := by omega
            go_wp2_with fail
            go_roundw
            case rel =>
              refine ⟨j + 1, by omega, (by first | rw [HW.out] | rfl | simp), ?_, (kr_far (by omega)).trans ((kr_far (by omega)).trans ((kr_far (by omega)).trans ((kr_far (by omega)).trans (HB.out.2.1)))), ((((HB.out.2.2).setCell (p := ⟨w.heap.size + 1, 2, none⟩) (Nat.le_succ _) _).setCell (p := ⟨w.heap.size + 1, 3, none⟩) (Nat.le_succ _) _).setCell (p := ⟨w.heap.size + 1, 0, none⟩) (Nat.le_succ _) _).setCell (p := ⟨w.heap.size + 1, 1, none⟩) (Nat.le_succ _) _⟩
              rw [HS.out]
              unfold Sm.step
              rw [if_pos hmn, if_pos hmx]
              exact kr_set (k := 1) (kr_set (k := 0) (kr_set (k := 3) (kr_set (k := 2) (HB.out.1))))
            case measure => (first | (rw [intOf_of' HW.out, intOf_of' rfl]; omega) | (simp [intOf]; omega) | (simp [intOf] <;> omega))
          · have hd : ¬ (x : Int) > (S.mx : Int) := by omega
            go_wp2_with fail
            go_roundw
            case rel =>
              refine ⟨j + 1, by omega, (by first | rw [HW.out] | rfl | simp), ?_, (kr_far (by omega)).trans ((kr_far (by omega)).trans ((kr_far (by omega)).trans (HB.out.2.1))), (((HB.out.2.2).setCell (p := ⟨w.heap.size + 1, 2, none⟩) (Nat.le_succ _) _).setCell (p := ⟨w.heap.size + 1, 0, none⟩) (Nat.le_succ _) _).setCell (p := ⟨w.heap.size + 1, 1, none⟩) (Nat.le_succ _) _⟩
              rw [HS.out]
              unfold Sm.step
              rw [if_pos hmn, if_neg hmx]
              exact kr_set (k := 1) (kr_set (k := 0) (kr_set (k := 2) (HB.out.1)))
            case measure => (first | (rw [intOf_of' HW.out, intOf_of' rfl]; omega) | (simp [intOf]; omega) | (simp [intOf] <;> omega))
      · have hj0 : ((j : Int) == 0) = false := by simp; omega
        have hxm : decide ((x : Int) < (S.mn : Int)) = false := by simp; omega
        have hxm' : ¬ (x : Int) < (S.mn : Int) := by omega
        by_cases hmx : S.mx < x
        · have hd : (x : Int) > (S.mx : Int) := by omega
          go_wp2_with fail
          go_roundw
          case rel =>
            refine ⟨j + 1, by omega, (by first | rw [HW.out] | rfl | simp), ?_, (kr_far (by omega)).trans ((kr_far (by omega)).trans ((kr_far (by omega)).trans (HB.out.2.1))), (((HB.out.2.2).setCell (p := ⟨w.heap.size + 1, 3, none⟩) (Nat.le_succ _) _).setCell (p := ⟨w.heap.size + 1, 0, none⟩) (Nat.le_succ _) _).setCell (p := ⟨w.heap.size + 1, 1, none⟩) (Nat.le_succ _) _⟩
            rw [HS.out]
            unfold Sm.step
            rw [if_neg hmn, if_pos hmx]
            exact kr_set (k := 1) (kr_set (k := 0) (kr_set (k := 3) (HB.out.1)))
          case measure => (first | (rw [intOf_of' HW.out, intOf_of' rfl]; omega) | (simp [intOf]; omega) | (simp [intOf] <;> omega))
        · have hd : ¬ (x : Int) > (S.mx : Int) := by omega
          go_wp2_with fail
          go_roundw
          case rel =>
            refine ⟨j + 1, by omega, (by first | rw [HW.out] | rfl | simp), ?_, (kr_far (by omega)).trans ((kr_far (by omega)).trans HB.out.2.1), (HB.out.2.2.setCell (p := ⟨w.heap.size + 1, 0, none⟩) (Nat.le_succ _) _).setCell (p := ⟨w.heap.size + 1, 1, none⟩) (Nat.le_succ _) _⟩
            rw [HS.out]
            unfold Sm.step
            rw [if_neg hmn, if_neg hmx]
            exact kr_set (k := 1) (kr_set (k := 0) HB.out.1)
          case measure => (first | (rw [intOf_of' HW.out, intOf_of' rfl]; omega) | (simp [intOf]; omega) | (simp [intOf] <;> omega))
    · have e : l.take j = l := List.take_of_length_le (by omega)
      have h3 : ¬ (j : Int) < (l.length : Int) := by omega
      have r0 := hR.cell 0
      have r1 := hR.cell 1
      have r2 := hR.cell 2
      have r3 := hR.cell 3
      have q0 := hR.thaw 0
      have q1 := hR.thaw 1
      have q2 := hR.thaw 2
      have q3 := hR.thaw 3
      rw [e] at g0 g1 g2 g3
      obtain ⟨S, hS⟩ : ∃ S, sumsL l = S := ⟨_, rfl⟩
      rw [hS] at g0 g1 g2 g3
      have HS := Lib.hid hS
      clear hS
      simp at g0 g1 g2 g3 r0 r1 r2 r3
      clear hG hR hb
      go_wp2_with fail
      refine bodyPost_ret (v := smV S) (by simp [results, Tryz.results140, go_sem, smV, r0, r1, r2, r3]) rfl ?_
      exact ⟨by rw [HS.out], ((((HB.out.2.2.setCell (p := ⟨w.heap.size, 0, none⟩) (Nat.le_refl _) _).setCell (p := ⟨w.heap.size, 1, none⟩) (Nat.le_refl _) _).setCell (p := ⟨w.heap.size, 2, none⟩) (Nat.le_refl _) _).setCell (p := ⟨w.heap.size, 3, none⟩) (Nat.le_refl _) _)⟩
end Go.Proofs.YtdkomhmciihkiaaGreat
/-! TrS -/
namespace Go.Proofs.YtdkomhmciihkiaaGreat
open Go.RowKit
set_option linter.unusedVariables false
set_option linter.unusedSimpArgs false
set_option maxRecDepth 100000

def slLen (v : Value) : Nat := match v with | .slice _ n _ => n | _ => 0
theorem OwnV.last {t : TypeId} {W w : World} {v x : Value} {l : List Value} (h : OwnV t W w v (l ++ [x])) :
    ∃ g c, v = .slice (some ⟨g, 0, none⟩) (l.length + 1) c ∧ w.cell? ⟨g, l.length, none⟩ = some x ∧ OwnV t W w (.slice (some ⟨g, 0, none⟩) l.length c) l ∧ l.length + 1 ≤ c := by
  obtain ⟨g, c, rfl, hg, hc⟩ := h.cells (by simp)
  have hc' := hc l.length (by simp)
  obtain ⟨h1, h2⟩ := h
  rw [List.length_append, List.length_singleton] at h2 ⊢
  rcases h2 with ⟨h2, _⟩ | ⟨g', cap, cur, q1, q2, q3, q4, q5, q6, q7⟩
  · cases h2
  · injection q1 with q1 _ q1'
    injection q1 with q1
    injection q1 with q1
    subst q1 q1'
    refine ⟨g, c, rfl, by rw [hc']; simp, ⟨by simp, .inr ⟨g, c, cur, rfl, q2, q3, by omega, q5, q6, ?_⟩⟩, q4⟩
    have := congrArg (List.take l.length) q7
    rw [List.take_take, List.take_left] at this
    rw [Nat.mul_one] at this ⊢
    rw [Nat.min_eq_left (by omega)] at this
    exact this
theorem Nd.tn {w : World} {k b : Nat} {l : List En} (h : Nd w k b l) : Tn k l := by
  induction h with
  | leaf _ p v h hp ho hv => exact .one _ hp
  | node _ s n pre ks h hs hkd hn ih =>
    refine .node n pre _ hkd fun x hx => ?_
    obtain ⟨y, hy, rfl⟩ := List.mem_map.1 hx
    exact ih y hy
/-- the kids of a node, as tree.Shapes goes through them -/
theorem Nd.kidsOf {w : World} {k b : Nat} {l : List En} (h : Nd w k b l) (hs : l.length ≤ 1000) :
    ∃ ks : List (Nat × Nat × List En), (shL l).pl = ks.map (·.1) ∧ shapesL l = shL l :: ks.flatMap (fun x => shapesL x.2.2) ∧ (∀ x ∈ ks, Nd w k x.2.1 x.2.2) ∧ ks.length ≤ 1000 ∧ (∀ x ∈ ks, x.2.2.length ≤ 1000) ∧
      ∀ j (hj : j < ks.length) w', Below w.heap.size w w' → Calls Tryz.prog 137 #[.pointer (some ⟨b, 0, none⟩), .int .i64 (ks[j].1 : Nat)] w' fun e w'' => e = .returned (pv (some ks[j].2.1)) ∧ Below w'.heap.size w' w'' := by
  cases h with
  | leaf _ p v h hp ho hv => exact ⟨[], rfl, by rw [shapes_one]; rfl, by simp, by simp, by simp, fun j hj => by simp at hj⟩
  | node _ s n pre ks h hs' hkd hn =>
    have hcl := cat_length (ks.map kl) hkd.ne
    refine ⟨ks, ?_, ?_, hn, ?_, ?_, ?_⟩
    · rw [hkd.sh]; simp only [List.map_map]; rfl
    · rw [Tn.shapes hkd (fun x hx => ?_), List.flatMap_map]
      · rfl
      · obtain ⟨y, hy, rfl⟩ := List.mem_map.1 hx
        exact (hn y hy).tn
    · rw [List.length_map] at hcl; omega
    · intro x hx
      have := hkd.kid_lt (List.mem_map_of_mem hx)
      have e : (kl x).2 = x.2.2 := rfl
      rw [e] at this
      omega
    · intro j hj w' hb
      have h1 := nkid_any w' b s k (ks.map kb) (ks[j].1 : Nat) (Below.keeps hb _ _ h.c3) (hs'.below hb)
      have e : lookI (ks.map kb) (ks[j].1 : Nat) = some ks[j].2.1 := by
        unfold lookI
        rw [if_neg (by omega), Int.toNat_natCast]
        have := Od.look_mem (key := ka) hs'.rw'.asc (x := kb ks[j]) (List.mem_map_of_mem (List.getElem_mem hj))
        rw [show ka (kb ks[j]) = ks[j].1 from rfl] at this
        rw [this]; rfl
      rw [e] at h1
      exact h1
def stV (st : List (Option Nat × List En)) : List Value := st.map fun x => pv x.1
theorem stV_append (a b : List (Option Nat × List En)) : stV (a ++ b) = stV a ++ stV b := List.map_append ..
def flatS (st : List (Option Nat × List En)) : List Sh := st.reverse.flatMap fun x => shapesL x.2
theorem flatS_snoc (st : List (Option Nat × List En)) (x : Option Nat × List En) : flatS (st ++ [x]) = shapesL x.2 ++ flatS st := by unfold flatS; simp
theorem RtN.shapes_pos {w : World} {k b : Nat} {l : List En} (h : Nd w k b l) (hs : l.length ≤ 1000) : 1 ≤ (shapesL l).length := by
  obtain ⟨ks, _, h2, _⟩ := h.kidsOf hs
  rw [h2]; simp
theorem flatS_len {w : World} {k : Nat} {st : List (Option Nat × List En)} (h : ∀ x ∈ st, RtN w k x.1 x.2 ∧ x.2.length ≤ 1000) (hn : ∀ x ∈ st, x.1 ≠ none) : st.length ≤ (flatS st).length := by
  have key : ∀ l : List (Option Nat × List En), (∀ x ∈ l, RtN w k x.1 x.2 ∧ x.2.length ≤ 1000) → (∀ x ∈ l, x.1 ≠ none) → l.length ≤ (l.flatMap fun x => shapesL x.2).length := by
    intro l
    induction l with
    | nil => intros; simp
    | cons x l ih =>
      intro h hn
      have h1 := ih (fun y hy => h y (by simp [hy])) (fun y hy => hn y (by simp [hy]))
      have h2 : 1 ≤ (shapesL x.2).length := by
        obtain ⟨r, lx⟩ := x
        have h3 := h (r, lx) (by simp)
        cases r with
        | none => exact absurd rfl (hn (none, lx) (by simp))
        | some b => exact RtN.shapes_pos h3.1 h3.2
      simp only [List.flatMap_cons, List.length_append, List.length_cons]
      omega
  have := key st.reverse (fun x hx => h x (by simpa using hx)) (fun x hx => hn x (by simpa using hx))
  rw [List.length_reverse] at this
  exact this
def kst (ks : List (Nat × Nat × List En)) : List (Option Nat × List En) := ks.reverse.map fun x => (some x.2.1, x.2.2)
theorem flatS_kst (st : List (Option Nat × List En)) (ks : List (Nat × Nat × List En)) : flatS (st ++ kst ks) = (ks.flatMap fun x => shapesL x.2.2) ++ flatS st := by
  unfold flatS kst
  rw [List.reverse_append, List.flatMap_append, ← List.map_reverse, List.reverse_reverse, List.flatMap_map]
theorem kst_drop (ks : List (Nat × Nat × List En)) (m : Nat) (h : m < ks.length) : kst (ks.drop m) = kst (ks.drop (m + 1)) ++ [(some ks[m].2.1, ks[m].2.2)] := by
  unfold kst
  rw [← List.getElem_cons_drop h, List.reverse_cons, List.map_append]
  rfl
/-- a row of another type has grown -/
theorem PtK.grownV {T : TypeId} {W0 W w w' : World} {v : Value} {l : List Value} (h1 : T ≠ 22) (h2 : T ≠ 3) (ho : OwnV T W w v l) (hg : w.grownBy w' v.ownBlock) : ∀ u p s, PtK W0 W w u p s → PtK W0 W w' u p s := by
  have key : ∀ {b : Nat} {cur : Array Value} {t : TypeId} {fr : Nat × Nat}, t ≠ T → w.heap[b]? = some (.cells cur t fr) → w'.heap[b]? = w.heap[b]? := fun ht hb =>
    hg.block _ (kr_lt hb) fun e => by
      obtain ⟨_, c2, h2⟩ := ho.block _ e.symm
      rw [hb] at h2
      injection h2 with h2
      injection h2 with _ h2 _
      exact ht h2
  exact fun u p s h => ⟨h.1.imp id (·.keepBlock fun b cur fr hb => key (fun e => h1 e.symm) hb), h.2.keepBlock fun b cur hb => key (fun e => h2 e.symm) hb⟩
theorem OwnS.grownV {T : TypeId} {Pt : PtS'} {W w w' : World} {u v : Value} {m : List Sh} {l : List Value} (hT : T ≠ 222) (h : OwnS Pt W w u m) (ho : OwnV T W w v l) (hg : w.grownBy w' v.ownBlock) : OwnS Pt W w' u m := by
  have hblk := h.block
  obtain ⟨cs, h1, h2⟩ := h
  refine ⟨cs, h1.kept hg ?_, h2⟩
  cases hu : u.ownBlock with
  | none => exact .inl rfl
  | some k =>
    refine .inr fun e => ?_
    obtain ⟨_, c1, g1⟩ := hblk k hu
    obtain ⟨_, c2, g2⟩ := ho.block k e.symm
    rw [g1] at g2
    injection g2 with g2
    injection g2 with _ g2 _
    exact hT g2.symm
theorem blkOther {T t : TypeId} {W w w' : World} {v : Value} {l : List Value} {b : Nat} {cur : Array Value} {fr : Nat × Nat} (hT : t ≠ T) (hb : w.heap[b]? = some (.cells cur t fr)) (ho : OwnV T W w v l) (hg : w.grownBy w' v.ownBlock) : w'.heap[b]? = some (.cells cur t fr) :=
  (hg.block _ (kr_lt hb) fun e => by
    obtain ⟨_, c2, h2⟩ := ho.block _ e.symm
    rw [hb] at h2
    injection h2 with h2
    injection h2 with _ h2 _
    exact hT h2).trans hb
set_option maxHeartbeats 8000000 in
theorem tshapes_any (w : World) (t k : Nat) (l : List En) (ht : TrR w t k l) (hs : l.length ≤ 1000) : Calls Tryz.prog 77 #[.pointer (some ⟨t, 0, none⟩)] w fun e w' => ShsP w w (shapesL l) e w' := by
  obtain ⟨r, c1, hr⟩ := ht.c1
  obtain ⟨q, hq⟩ := pv_ex r
  have hlt := World.block_lt_of_cell? w _ c1
  have hT : (shapesL l).length ≤ 2000 := by
    cases r with
    | none => obtain rfl : l = [] := hr; decide
    | some b => have := (Nd.tn hr).len; omega
  have HD := Lib.hid (And.intro ht.k1 (And.intro ht.k16 (And.intro hs hT)))
  have HR := Lib.hid (And.intro hr hq)
  rw [hq] at c1
  clear ht hr hT hs
  go_enter Tryz.func77, Tryz.ntmps77
  go_wp2_with fail
  refine (troot_any w t q c1).mono ?_
  rintro e w1 ⟨rfl, hw⟩
  obtain rfl := hw.symm
  clear hw
  go_wp2_with fail
  go_loopw [3, 4, 5, 6, 7] (fun ov sv _ _ _ wr => ∃ (st : List (Option Nat × List En)) (outL : List Sh), outL ++ flatS st = shapesL l ∧ (∀ x ∈ st, RtN w k x.1 x.2 ∧ x.2.length ≤ 1000) ∧ ((∀ x ∈ st, x.1 ≠ none) ∨ st.length ≤ 1) ∧ OwnS (PtK w w wr) w wr ov outL ∧ OwnV 113 w wr sv (stV st) ∧ Below w.heap.size w wr)
    (fun ov sv _ _ _ _ => ((shapesL l).length - slLen ov) * ((shapesL l).length + 2) + slLen sv)
  case atStart =>
    refine ⟨[(r, l)], [], by unfold flatS; simp, ?_, .inr (by simp), OwnS.nil _ _ _, ?_, (by repeat (first | exact Below.refl _ _ | (refine Below.drew ?_) | (refine below_drewN' ?_ _) | (refine below_alloc' ?_ _) | (refine Below.setCell ?_ (by first | exact Nat.le_refl _ | (simp; done) | (simp; omega)) _)))⟩
    · intro x hx
      obtain rfl : x = (r, l) := by simpa using hx
      exact ⟨HR.out.1, HD.out.2.2.1⟩
    · unfold stV OwnV
      simp only [List.map_cons, List.map_nil, List.length_singleton, hq]
      exact World.ownsRow_lit w #[.pointer q] 1 (Nat.le_refl _) (by simp [maxLen]) (by simp)
  case round =>
    obtain ⟨st, outL, hfl, hst, hsome, hown, hsv, hb⟩ := hrel
    rcases List.eq_nil_or_concat st with rfl | ⟨st0, ⟨rx, lx⟩, rfl⟩
    · obtain ⟨A, c, rfl⟩ := hsv.shape
      have HF := Lib.hid (And.intro hfl (And.intro hown hb))
      clear hfl hst hsome hown hsv hb
      simp only [stV, List.map_nil, List.length_nil]
      go_wp2_with fail
      go_ret
      exact ⟨_, rfl, by have := HF.out.1; unfold flatS at this; simp at this; rw [← this]; exact HF.out.2.1, HF.out.2.2⟩
    · rw [List.concat_eq_append] at *
      rw [stV_append] at hsv
      obtain ⟨g, c, rfl, k0, hsv0, hcap⟩ := hsv.last
      have hlen : (stV st0).length = st0.length := List.length_map ..
      rw [hlen] at k0 hsv0 hcap ⊢
      have hgl := World.block_lt_of_cell? wr _ k0
      have hn0 : st0.length ≤ (flatS st0).length ∧ (st0 ≠ [] → rx ≠ none) := by
        rcases hsome with h | h
        · exact ⟨flatS_len (fun x hx => hst x (by simp [hx])) (fun x hx => h x (by simp [hx])), fun _ => h (rx, lx) (by simp)⟩
        · rw [List.length_append, List.length_singleton] at h
          have : st0 = [] := List.length_eq_zero_iff.1 (by omega)
          subst this
          exact ⟨by simp, fun h => absurd rfl h⟩
      rw [flatS_snoc] at hfl
      have hflen := congrArg List.length hfl
      simp only [List.length_append] at hflen
      have hrx := (hst (rx, lx) (by simp)).1
      have hlx := (hst (rx, lx) (by simp)).2
      have hst0 : ∀ x ∈ st0, RtN w k x.1 x.2 ∧ x.2.length ≤ 1000 := fun x hx => hst x (by simp [hx])
      have hsome0 : rx ≠ none → ∀ x ∈ st0, x.1 ≠ none := fun hne => by
        rcases hsome with h | h
        · exact fun x hx => h x (by simp [hx])
        · rw [List.length_append, List.length_singleton] at h
          have : st0 = [] := List.length_eq_zero_iff.1 (by omega)
          subst this
          exact fun x hx => by simp at hx
      obtain ⟨Ao, co, rfl⟩ : ∃ Ao co, u3 = .slice Ao outL.length co := by obtain ⟨A, c, e, _⟩ := hown.rd; exact ⟨A, c, e⟩
      have h1 : (0 : Int) ≤ (st0.length : Int) := by omega
      have h2 : (st0.length : Int) < (st0.length : Int) + 1 := by omega
      have h2' : (st0.length : Int) ≤ (st0.length : Int) + 1 := by omega
      have h3 : (st0.length : Int) + 1 > 0 := by omega
      have h4 : (st0.length : Int) ≤ (c : Int) := by omega
      have hw0 : wrap64 (st0.length : Int) = (st0.length : Int) := by have := HD.out.2.2.2; unfold wrap64; omega
      have HS := Lib.hid (And.intro hfl (And.intro hst0 (And.intro hsome0 (And.intro hown (And.intro hsv0 (And.intro hb (And.intro hflen hn0)))))))
      clear hfl hst hsome hown hsv hsv0 hb hst0 hsome0 hlen hflen hn0 hcap
      cases rx with
      | none =>
        simp only [stV, List.map_cons, List.map_nil, pv_none] at k0
        have HX := Lib.hid (show st0 = [] from by cases st0 with | nil => rfl | cons y ys => exact absurd rfl (HS.out.2.2.2.2.2.2.2.2 (by simp)))
        have HLX := Lib.hid (show lx = [] from hrx)
        clear hrx
        go_wp2_with fail
        go_roundw
        case rel => exact ⟨st0, outL, by have := HS.out.1; rw [HLX.out] at this; exact this, HS.out.2.1, .inr (by rw [HX.out]; simp), HS.out.2.2.2.1, HS.out.2.2.2.2.1, HS.out.2.2.2.2.2.1⟩
        case measure => simp [slLen]
      | some b =>
        have hnd : Nd w k b lx := hrx
        obtain ⟨ks, p1, p2, p3, p4, p5, p6⟩ := hnd.kidsOf hlx
        have HK := Lib.hid (And.intro p1 (And.intro p2 (And.intro p3 (And.intro p4 (And.intro p5 p6)))))
        have HSH := Lib.hid (fun w' (hb : Below w.heap.size w w') => nshape_any w' k b lx (hnd.bel hb) HD.out.1 HD.out.2.1)
        simp only [stV, List.map_cons, List.map_nil, pv_some] at k0
        clear hrx hnd p1 p2 p3 p4 p5 p6
        go_wp2_with fail
        refine (HSH.out _ HS.out.2.2.2.2.2.1).mono ?_
        rintro e w5 ⟨x, rfl, hx, hb5⟩
        obtain ⟨u, p9, rfl, hpt, hpl⟩ := hx.ex
        obtain ⟨Ap, cp, ep⟩ := hpl.shape
        obtain ⟨Au, cu, rfl, _⟩ := RdU.point hpt.rd
        rw [List.length_map, HK.out.1, List.length_map] at ep
        have hb5w : Below w.heap.size w w5 := HS.out.2.2.2.2.2.1.trans (hb5.mono HS.out.2.2.2.2.2.1.size)
        have hpt5 : PtK w w w5 _ p9 (shL lx) := ⟨.inr hpt, hpl.base HS.out.2.2.2.2.2.1.size⟩
        have hsl := slicesK w w w5 _ _ _ hpt5
        have H5 := Lib.hid (And.intro hpt5 (And.intro ((HS.out.2.2.2.1.below hb5).mono (PtK.below hb5)) (And.intro (HS.out.2.2.2.2.1.below hb5) hb5w)))
        have hgl5 : g < w5.heap.size := Nat.lt_of_lt_of_le hgl hb5.size
        subst ep
        clear hx hpt hpl hb5 hb5w hpt5 k0 hgl
        obtain ⟨S, hS⟩ : ∃ S, shL lx = S := ⟨_, rfl⟩
        rw [hS] at H5 HK hsl ⊢
        clear hS HSH
        go_wp2_with (at_builtin; refine wpList_append_S (Pt := PtK w w w5) rfl (.tmp 29) (.tmp 31) rfl w outL [S] ?_ ?_ ?_ ?_ ?_)
        · exact H5.out.2.1.below (by repeat (first | exact Below.refl _ _ | (refine Below.drew ?_) | (refine below_drewN' ?_ _) | (refine below_alloc' ?_ _) | (refine Below.setCell ?_ (by first | exact Nat.le_refl _ | (simp; done) | (simp; omega)) _)))
        · exact SrcS.one (slicesK _ _ _) H5.out.1 (by simp [go_sem]) (by simp [go_sem]) (by simp [go_sem]) (by simp [go_sem]) (by simp [go_sem])
        · have := H5.out.2.2.2.size; simp; omega
        · have := HS.out.2.2.2.2.2.2.1; have := HD.out.2.2.2; simp only [List.length_singleton]; omega
        intro v' w6 hown' hg
        have hoW := H5.out.2.1.below (w' := ((w5.alloc (.cells #[.int .i64 S.lv, .slice Au S.pre.length cu, .slice Ap ks.length cp, .bool S.dense, .int .u64 (S.v : Nat)] 222)).alloc (.cells #[.int .i64 S.lv, .slice Au S.pre.length cu, .slice Ap ks.length cp, .bool S.dense, .int .u64 (S.v : Nat)] 222))) (by repeat (first | exact Below.refl _ _ | (refine Below.drew ?_) | (refine below_drewN' ?_ _) | (refine below_alloc' ?_ _) | (refine Below.setCell ?_ (by first | exact Nat.le_refl _ | (simp; done) | (simp; omega)) _)))
        have hB6 : w6.heap[w5.heap.size]? = some (.cells #[.int .i64 S.lv, .slice Au S.pre.length cu, .slice Ap ks.length cp, .bool S.dense, .int .u64 (S.v : Nat)] 222 (0, 0)) := (hg.block _ (by simp; omega) fun e => by
          obtain ⟨_, cur, h⟩ := H5.out.2.1.block _ e.symm
          have := kr_lt h
          omega).trans (((below_alloc' (Below.refl _ _) _).block _ (by simp)).trans (alloc_blk _ _))
        have hpk : ∀ u p s, PtK w w w5 u p s → PtK w w w6 u p s := fun u p s h => PtK.grown hoW hg _ _ _ (PtK.below (w' := ((w5.alloc (.cells #[.int .i64 S.lv, .slice Au S.pre.length cu, .slice Ap ks.length cp, .bool S.dense, .int .u64 (S.v : Nat)] 222)).alloc (.cells #[.int .i64 S.lv, .slice Au S.pre.length cu, .slice Ap ks.length cp, .bool S.dense, .int .u64 (S.v : Nat)] 222))) (by repeat (first | exact Below.refl _ _ | (refine Below.drew ?_) | (refine below_drewN' ?_ _) | (refine below_alloc' ?_ _) | (refine Below.setCell ?_ (by first | exact Nat.le_refl _ | (simp; done) | (simp; omega)) _))) _ _ _ h)
        have hst6 := (H5.out.2.2.1.below (w' := ((w5.alloc (.cells #[.int .i64 S.lv, .slice Au S.pre.length cu, .slice Ap ks.length cp, .bool S.dense, .int .u64 (S.v : Nat)] 222)).alloc (.cells #[.int .i64 S.lv, .slice Au S.pre.length cu, .slice Ap ks.length cp, .bool S.dense, .int .u64 (S.v : Nat)] 222))) (by repeat (first | exact Below.refl _ _ | (refine Below.drew ?_) | (refine below_drewN' ?_ _) | (refine below_alloc' ?_ _) | (refine Below.setCell ?_ (by first | exact Nat.le_refl _ | (simp; done) | (simp; omega)) _)))).keepBlock fun b cur hb => hg.block b (kr_lt hb) fun e => by
          obtain ⟨_, c2, h2⟩ := hoW.block b e.symm
          rw [hb] at h2
          injection h2 with h2
          injection h2 with _ h2 _
          revert h2; decide
        have hb6 : Below w.heap.size w w6 := hoW.grown (H5.out.2.2.2.trans ((show Below w5.heap.size w5 ((w5.alloc (.cells #[.int .i64 S.lv, .slice Au S.pre.length cu, .slice Ap ks.length cp, .bool S.dense, .int .u64 (S.v : Nat)] 222)).alloc (.cells #[.int .i64 S.lv, .slice Au S.pre.length cu, .slice Ap ks.length cp, .bool S.dense, .int .u64 (S.v : Nat)] 222)) from (by repeat (first | exact Below.refl _ _ | (refine Below.drew ?_) | (refine below_drewN' ?_ _) | (refine below_alloc' ?_ _) | (refine Below.setCell ?_ (by first | exact Nat.le_refl _ | (simp; done) | (simp; omega)) _)))).mono H5.out.2.2.2.size)) hg
        have H6 := Lib.hid (And.intro (hown'.mono hpk) (And.intro hB6 (And.intro (hpk _ _ _ H5.out.1).2 (And.intro hst6 hb6))))
        have k2 : w6.cell? ⟨w5.heap.size, 2, none⟩ = some (.slice Ap ks.length cp) := by simp [World.cell?, hB6]
        have hl6 := kr_lt hB6
        generalize w5.heap.size = B at *
        have hw1 : wrap64 ((ks.length : Int) - 1) = (ks.length : Int) - 1 := by have := HK.out.2.2.2.1; unfold wrap64; omega
        have HW1 := Lib.hid hw1
        clear hown' hg hoW hpk hst6 hb6 hB6 H5 hw0 h1 h2 h2' h3 h4 hsl
        go_wp2_with fail
        clear k2 hw1 hl6
        go_loopw [4, 7] (fun sv iv wr2 => ∃ m : Nat, m ≤ ks.length ∧ iv = .int .i64 ((m : Int) - 1) ∧ OwnV 113 w wr2 sv (stV (st0 ++ kst (ks.drop m))) ∧ OwnS (PtK w w wr2) w wr2 v' (outL ++ [S]) ∧ wr2.heap[B]? = some (.cells #[.int .i64 S.lv, .slice Au S.pre.length cu, .slice Ap ks.length cp, .bool S.dense, .int .u64 (S.v : Nat)] 222 (0, 0)) ∧
          OwnV 3 w wr2 (.slice Ap ks.length cp) (S.pl.map fun (x : Nat) => Value.int .i64 (x : Nat)) ∧ Below w.heap.size w wr2) (fun _ iv _ => (intOf iv + 1).toNat)
        case atStart => exact ⟨ks.length, Nat.le_refl _, by first | rfl | rw [HW1.out], by rw [List.drop_length]; simp only [kst, List.reverse_nil, List.map_nil, List.append_nil]; exact H6.out.2.2.2.1, H6.out.1, H6.out.2.1, H6.out.2.2.1, H6.out.2.2.2.2⟩
        case round =>
          obtain ⟨m, hm, rfl, hsv, hown, hB, hpl, hb⟩ := hrel
          have HR2 := Lib.hid (And.intro hsv (And.intro hown (And.intro hB (And.intro hpl hb))))
          have HM := Lib.hid hm
          obtain ⟨As, cs, es⟩ := hsv.shape
          cases m with
          | zero =>
            have he : (((0 : Nat) : Int) - 1) = -1 := rfl
            clear hsv hown hB hpl hb hm es
            simp only [he]
            go_wp2_with fail
            go_roundw
            case rel =>
              refine ⟨st0 ++ kst ks, outL ++ [S], ?_, ?_, .inl ?_, HR2.out.2.1, HR2.out.1, HR2.out.2.2.2.2⟩
              · have := HS.out.1
                rw [HK.out.2.1] at this
                rw [flatS_kst, ← this]
                simp
              · intro x hx
                rcases List.mem_append.1 hx with hx | hx
                · exact HS.out.2.1 x hx
                · unfold kst at hx
                  obtain ⟨y, hy, rfl⟩ := List.mem_map.1 hx
                  exact ⟨HK.out.2.2.1 y (by simpa using hy), HK.out.2.2.2.2.1 y (by simpa using hy)⟩
              · intro x hx
                rcases List.mem_append.1 hx with hx | hx
                · exact HS.out.2.2.1 (by simp) x hx
                · unfold kst at hx
                  obtain ⟨y, hy, rfl⟩ := List.mem_map.1 hx
                  simp
            case measure =>
              obtain ⟨A9, c9, e9⟩ := HR2.out.1.shape
              obtain ⟨A8, c8, e8, _⟩ := HR2.out.2.1.rd
              rw [e9, e8]
              have hk : (stV (st0 ++ kst ks)).length = st0.length + ks.length := by unfold stV kst; simp
              have h1 := HS.out.2.2.2.2.2.2.1
              have h2 := HS.out.2.2.2.2.2.2.2.1
              have h3 : (shapesL lx).length = 1 + (ks.flatMap fun x => shapesL x.2.2).length := by rw [HK.out.2.1]; simp; omega
              have h4 : ks.length ≤ (ks.flatMap fun x => shapesL x.2.2).length := by
                have key : ∀ q : List (Nat × Nat × List En), (∀ x ∈ q, Nd w k x.2.1 x.2.2) → (∀ x ∈ q, x.2.2.length ≤ 1000) → q.length ≤ (q.flatMap fun x => shapesL x.2.2).length := by
                  intro q
                  induction q with
                  | nil => intros; simp
                  | cons x q ih =>
                    intro h1 h2
                    have h3 := ih (fun y hy => h1 y (by simp [hy])) (fun y hy => h2 y (by simp [hy]))
                    have h4 := RtN.shapes_pos (h1 x (by simp)) (h2 x (by simp))
                    simp only [List.flatMap_cons, List.length_append, List.length_cons]
                    omega
                exact key ks HK.out.2.2.1 HK.out.2.2.2.2.1
              simp only [slLen, List.drop_zero, List.length_append, List.length_singleton, hk]
              generalize (shapesL l).length = T at *
              obtain ⟨D, hD⟩ : ∃ D, T - (outL.length + 1) = D := ⟨_, rfl⟩
              have hD' : T - outL.length = D + 1 := by omega
              rw [hD, hD', Nat.succ_mul]
              omega
          | succ m =>
            have he : (((m + 1 : Nat) : Int) - 1) = (m : Int) := by omega
            have hml : m < ks.length := by omega
            obtain ⟨gp, np, ep, _, hcp⟩ := hpl.cells (by intro h; have := congrArg List.length h; have h9 := congrArg List.length HK.out.1; rw [List.length_map] at this h9; simp at this; rw [this] at h9; simp at h9; omega)
            have kp := hcp m (by rw [List.length_map, HK.out.1, List.length_map]; exact hml)
            have ke : S.pl[m]'(by rw [HK.out.1, List.length_map]; exact hml) = ks[m].1 := by simp only [HK.out.1, List.getElem_map]
            rw [List.getElem_map, ke] at kp
            injection ep with ep e2 e3
            subst ep
            clear e2 e3
            have HKD := Lib.hid (HK.out.2.2.2.2.2 m hml wr hb)
            have HKS := Lib.hid (kst_drop ks m hml)
            have k2 : wr.cell? ⟨B, 2, none⟩ = some (.slice (some ⟨gp, 0, none⟩) ks.length cp) := by simp [World.cell?, hB]
            have hlB := kr_lt hB
            have hlg : gp < wr.heap.size := World.block_lt_of_cell? wr _ kp
            have hf : (0 : Int) ≤ (m : Int) := by omega
            have hf2 : (m : Int) < (ks.length : Int) := by omega
            have HWR := Lib.hid (show wrap64 ((m : Int) - 1) = (m : Int) - 1 by have := HK.out.2.2.2.1; unfold wrap64; omega)
            obtain ⟨y1, hy1⟩ : ∃ y1, ks[m].1 = y1 := ⟨_, rfl⟩
            obtain ⟨y2, hy2⟩ : ∃ y2, ks[m].2.1 = y2 := ⟨_, rfl⟩
            rw [hy1, hy2] at HKD
            rw [hy1] at kp
            rw [hy2] at HKS
            subst es
            clear hsv hown hB hpl hb hcp ke hy1 hy2 hm
            simp only [he, pv_some] at *
            go_wp2_with fail
            refine HKD.out.mono ?_
            rintro e w7 ⟨rfl, hb7⟩
            have H7 := Lib.hid (And.intro (HR2.out.1.below hb7) (And.intro ((HR2.out.2.1.below hb7).mono (PtK.below hb7)) (And.intro ((hb7.block _ hlB).trans HR2.out.2.2.1) (And.intro (HR2.out.2.2.2.1.below hb7) (HR2.out.2.2.2.2.trans (hb7.mono HR2.out.2.2.2.2.size))))))
            clear hb7 k2 hlB kp hlg
            go_wp2_with (at_builtin; refine wpList_append_V rfl (.tmp 41) (.tmp 49) rfl w (stV (st0 ++ kst (ks.drop (m + 1)))) (.pointer (some ⟨y2, 0, none⟩)) nodesT ?_ ?_ ?_ ?_ ?_)
            · exact H7.out.1.below (by repeat (first | exact Below.refl _ _ | (refine Below.drew ?_) | (refine below_drewN' ?_ _) | (refine below_alloc' ?_ _) | (refine Below.setCell ?_ (by first | exact Nat.le_refl _ | (simp; done) | (simp; omega)) _)))
            · exact ⟨_, _, rfl, by simp [go_sem], rfl⟩
            · have := H7.out.2.2.2.2.size; simp; omega
            · have h1 := HS.out.2.2.2.2.2.2.1; have h2 := HS.out.2.2.2.2.2.2.2.1; have h3 := HD.out.2.2.2; have h4 := HK.out.2.2.2.1; unfold stV kst; simp; omega
            intro sv' w8 hown' hg
            have hsW := H7.out.1.below (w' := (w7.alloc (.cells #[.pointer (some ⟨y2, 0, none⟩)] 113))) (by repeat (first | exact Below.refl _ _ | (refine Below.drew ?_) | (refine below_drewN' ?_ _) | (refine below_alloc' ?_ _) | (refine Below.setCell ?_ (by first | exact Nat.le_refl _ | (simp; done) | (simp; omega)) _)))
            have hbW : Below w7.heap.size w7 (w7.alloc (.cells #[.pointer (some ⟨y2, 0, none⟩)] 113)) := (by repeat (first | exact Below.refl _ _ | (refine Below.drew ?_) | (refine below_drewN' ?_ _) | (refine below_alloc' ?_ _) | (refine Below.setCell ?_ (by first | exact Nat.le_refl _ | (simp; done) | (simp; omega)) _)))
            have H8 := Lib.hid (show OwnV 113 w w8 sv' (stV (st0 ++ kst (ks.drop m))) ∧ OwnS (PtK w w w8) w w8 v' (outL ++ [S]) ∧ w8.heap[B]? = some (.cells #[.int .i64 S.lv, .slice Au S.pre.length cu, .slice (some ⟨gp, 0, none⟩) ks.length cp, .bool S.dense, .int .u64 (S.v : Nat)] 222 (0, 0)) ∧
              OwnV 3 w w8 (.slice (some ⟨gp, 0, none⟩) ks.length cp) (S.pl.map fun (x : Nat) => Value.int .i64 (x : Nat)) ∧ Below w.heap.size w w8 from by
              refine ⟨?_, ?_, ?_, ?_, ?_⟩
              · rw [HKS.out, ← List.append_assoc, stV_append]; exact hown'
              · exact (((H7.out.2.1.below hbW).mono (PtK.below hbW)).grownV (by decide) hsW hg).mono (PtK.grownV (by decide) (by decide) hsW hg)
              · exact blkOther (by decide) ((hbW.block _ (kr_lt H7.out.2.2.1)).trans H7.out.2.2.1) hsW hg
              · exact (H7.out.2.2.2.1.below hbW).keepBlock fun b cur hb => by
                  rw [blkOther (by decide) hb hsW hg, hb]
              · exact hsW.grown (H7.out.2.2.2.2.trans (hbW.mono H7.out.2.2.2.2.size)) hg)
            clear hown' hg hsW hbW
            go_wp2_with fail
            go_roundw
            case rel => exact ⟨m, by omega, by first | rfl | rw [HWR.out], H8.out⟩
            case measure => rw [intOf_of' HWR.out, intOf_nat]; omega
end Go.Proofs.YtdkomhmciihkiaaGreat
/-! IsN -/
namespace Go.Proofs.YtdkomhmciihkiaaGreat
open Go.RowKit
set_option linter.unusedVariables false
set_option linter.unusedSimpArgs false
set_option maxRecDepth 100000

theorem sums_neq (S : Sm) (w : World) : (binOp .neq 217 (smV S) (smV S)).run Tryz.prog w = .ok (.bool false) w := by
  have u3 := Tryz.underlying22
  have a3 := Tryz.isAgg22
  have z3 := Tryz.sizeOf22
  have hS : Tryz.prog.underlying 217 = some (.struct (Tryz.prog.fieldsOf 217)) := by kernel_rfl
  have hp : Tryz.prog.stoodInHeld 217 = false := by kernel_rfl
  unfold smV
  rw [run_neq_struct, show (10000 : Nat) = 9999 + 1 from rfl, run_equalIn_struct w 9999 217 _ _ hS hp]
  simp only [Program.fieldsOf, Tryz.underlying217]
  go_simp
theorem sums_grd (S : Sm) (op : BinOp) (x y : Operand) (w : World) : (eqGuard op 217 x y (smV S) (smV S)).run Tryz.prog w = .ok () w := run_eqGuard_agg w op _ x y _ _ (by kernel_rfl)
theorem rShape_nd {k : Nat} {l : List En} (h : Tn k l) (W0 w : World) (v : Value) (hv : RdE W0 v l) (hb : Below W0.heap.size W0 w) (he : EtS k l) : Calls Tryz.prog 138 #[v] w fun e' w' => ShRP w w (shL l) e' w' := by
  cases h with
  | one e h => exact (rShape_one w w e v (hv.below hb) (Below.refl _ _))
  | node n pre ks hk hn => exact rShape_more w w k n pre ks v hk (hv.below hb) he
theorem Nd.vals {w : World} {k b : Nat} {l : List En} (h : Nd w k b l) : ∀ e ∈ l, e.v < 2 ^ 64 := by
  induction h with
  | leaf _ p v h hp ho hv => intro e he; obtain rfl : e = ⟨p, v⟩ := by simpa using he
                             exact hv
  | node _ s n pre ks h hs hkd hn ih =>
    intro e he
    obtain ⟨x, hx, he⟩ := mem_cat.1 he
    obtain ⟨y, hy, rfl⟩ := List.mem_map.1 hx
    exact ih y hy e he
theorem Tn.sh_pre {k : Nat} {l : List En} (h : Tn k l) : (shL l).pre = preL l := by
  cases h with
  | one e h => rw [preL_one]; rfl
  | node n pre ks hk hn => rw [hk.sh, hk.preL]
theorem Tn.sh_lv {k : Nat} {l : List En} (h : Tn k l) : (shL l).lv = (lev l : Int) - 1 := by
  cases h with
  | one e h => rw [lev_one]; rfl
  | node n pre ks hk hn => rw [hk.sh, hk.lev]; show (n : Int) = _; omega
theorem Tn.sh_pl {k : Nat} {l : List En} (h : Tn k l) : (shL l).pl.length ≤ l.length := by
  cases h with
  | one e h => simp [shL]
  | node n pre ks hk hn => rw [hk.sh]; simp only [List.length_map]; exact (cat_length ks hk.ne).1
theorem leaf_ent (w : World) (k b : Nat) (l : List En) (hnd : Nd w k b l) (hl1 : l.length = 1) (k1 : 1 ≤ k) (k16 : k ≤ 16) : Calls Tryz.prog 120 #[.pointer (some ⟨b, 0, none⟩)] w fun e w' => EntP w (l[0]'(by omega)).p (l[0]'(by omega)).v e w' := by
  obtain ⟨e, rfl⟩ := List.length_eq_one_iff.1 hl1
  obtain ⟨h, hp⟩ := hnd.leaf_hd
  exact ent_leaf w b k e.v _ e.p _ h hp k1 k16
set_option maxHeartbeats 4000000 in
theorem is06_one (w : World) (k b : Nat) (l : List En) (v : Value) (hnd : Nd w k b l) (hl1 : l.length = 1) (hv0 : RdE w v l) (he : EtS k l) (k1 : 1 ≤ k) (k16 : k ≤ 16) :
    Calls Tryz.prog 79 #[.pointer (some ⟨b, 0, none⟩), v] w fun e w' => e = .returned (.bool true) ∧ Below w.heap.size w w' := by
  have HEN := Lib.hid (fun w' (hb : Below w.heap.size w w') => leaf_ent w' k b l (hnd.bel hb) hl1 k1 k16)
  obtain ⟨va, kp, hh⟩ := hnd.hd
  obtain ⟨hpl, hpo, _⟩ := hnd.pre_ok
  have HNE := hnd.ne
  have hnl : 0 < l.length := List.length_pos_iff.2 HNE
  obtain ⟨u, c1, hu⟩ := hh.c1
  have HUP := Lib.hid (And.intro hu hpl)
  obtain ⟨A0, c0, rfl, _⟩ := RdU.point hu
  have HRS := Lib.hid (fun w' (hb : Below w.heap.size w w') => rShape_nd hnd.tn w w' v hv0 hb he)
  have HRU := Lib.hid (fun w' (hb : Below w.heap.size w w') => rSums_any w' l v (hv0.below hb) hnd.vals he.short)
  have HK := Lib.hid (fun w' (hb : Below w.heap.size w w') => nk_any w' b k A0 c0 (by have := Below.keeps hb _ _ c1; rw [hpl] at this; exact this))
  have HSH := Lib.hid (fun w' (hb : Below w.heap.size w w') => nshape_any w' k b l (hnd.bel hb) k1 k16)
  have HSS := Lib.hid (fun w' x y (hx : ShR w' x (shL l)) (hy : ShR w' y (shL l)) => rSameShape w' x y (shL l) hx hy (by rw [hnd.tn.sh_pre, hpl]; omega) (Nat.le_trans (hnd.tn.sh_pl) (by have := he.short; omega)))
  have HNS := Lib.hid (fun w' (hb : Below w.heap.size w w') => nsums_any w' b _ _ _ _ _ (hh.keep hb))
  have HLV := Lib.hid (fun w' (hb : Below w.heap.size w w') => nlev_any w' b _ (Below.keeps hb _ _ hh.c0))
  have HPF := Lib.hid (fun w' (hb : Below w.heap.size w w') => npref_any w' b (preL l) _ (Below.keeps hb _ _ c1) (hu.below hb) (by rw [hpl]; exact k1) (by rw [hpl]; exact k16))
  have HSA := Lib.hid (fun w' u u2 (h1 : RdU w' u (pti (preL l))) (h2 : RdU w' u2 (pti (shL l).pre)) => (Same_any u u2 _ _ w' h1 h2 (by unfold pti; rw [List.length_map, hpl]; omega)).mono fun e w'' ⟨q1, q2⟩ => (⟨by rw [q1, hnd.tn.sh_pre, decide_eq_true rfl], q2.elim fun n hn => hn ▸ drewN_below _ _⟩ : e = Ending.returned (.bool true) ∧ Below w'.heap.size w' w''))
  have hlv : (shL l).lv = (lev l : Int) - 1 := hnd.tn.sh_lv
  rw [← hlv] at HLV
  obtain ⟨A, c, rfl, _, hx⟩ := hv0
  obtain ⟨b2, o2, rfl, hc⟩ := hx hnl
  obtain ⟨ux, k0, kux, k1'⟩ := hc 0 hnl
  have e0 : l[0].p.length = k := he.et.len _ (List.getElem_mem hnl)
  simp only [Nat.zero_mul, Nat.add_zero] at k0 k1'
  have HV0 := Lib.hid (And.intro kux (And.intro k0 k1'))
  obtain ⟨Ax, cx, rfl, _⟩ := RdU.point kux
  rw [e0] at k0 HV0
  have HPL := Lib.hid e0
  clear e0
  have hsn := sums_neq (sumsL l)
  have hsg := sums_grd (sumsL l)
  have hfd0 : ∀ (z : Int) (u p : Value) (d : Bool) (x : Int) (w : World), (Instr.field 222 (.agg #[.int .i64 z, u, p, .bool d, .int .u64 x]) 0).run Tryz.prog w = .ok (.int .i64 z) w := fun _ _ _ _ _ _ => by kernel_rfl
  have hfd1 : ∀ (z : Int) (A : Option Addr) (n c : Nat) (p : Value) (d : Bool) (x : Int) (w : World), (Instr.field 222 (.agg #[.int .i64 z, .slice A n c, p, .bool d, .int .u64 x]) 1).run Tryz.prog w = .ok (.slice A n c) w := fun _ _ _ _ _ _ _ _ => by kernel_rfl
  have hnn : (0 : Int) < (l.length : Int) := by omega
  have hlz := World.block_lt_of_cell? w _ k0
  have ne0 : ((k : Int) != (k : Int)) = false := by simp
  have ne1 : ((shL l).lv != (shL l).lv) = false := by simp
  clear c1 hu hh hpo hlv HUP kux

  have HS2 := Lib.hid (fun w' u u2 (h1 : RdU w' u (pti l[0].p)) (h2 : RdU w' u2 (pti l[0].p)) => (Same_any u u2 _ _ w' h1 h2 (by unfold pti; rw [List.length_map, HPL.out]; omega)).mono fun e w'' ⟨q1, q2⟩ => (⟨by rw [q1, decide_eq_true rfl], q2.elim fun n hn => hn ▸ drewN_below _ _⟩ : e = Ending.returned (.bool true) ∧ Below w'.heap.size w' w''))
  clear hnd HNE he k1 k16 hpl hc hx
  rw [hl1] at *
  generalize shL l = SL at *
  generalize sumsL l = SM at *
  generalize (l[0]) = en at *
  have HBO := Lib.hid (Below.refl w.heap.size w)
  go_enter Tryz.func79, Tryz.ntmps79
  go_wp2_with fail
  refine (HEN.out _ (Below.refl _ _)).mono ?_
  rintro e ww1 ⟨u1, rfl, hpt, hb9⟩
  have hs9 : Below w.heap.size w ww1 := below_trans (by repeat (first | exact Below.refl _ _ | (refine Below.drew ?_) | (refine below_drewN' ?_ _) | (refine below_alloc' ?_ _) | (refine Below.setCell ?_ (by first | exact Nat.le_refl _ | (simp; done) | (simp; omega)) _))) hb9
  replace HBO := Lib.hid (HBO.out.trans ((hs9).mono HBO.out.size))
  obtain ⟨A1, c1, rfl, _⟩ := RdU.point hpt.rd
  have HPT := Lib.hid hpt
  clear hpt
  rw [HPL.out] at HPT ⊢
  clear hs9 hb9
  go_wp2_with fail
  refine (HK.out _ (by repeat (first | exact HBO.out | (refine Below.drew ?_) | (refine below_drewN' ?_ _) | (refine below_alloc' ?_ _) | (refine Below.setCell ?_ (by first | exact Nat.le_refl _ | (have := HBO.out.size; simp; omega) | (have := HBO.out.size; omega)) _)))).mono ?_
  rintro e w9 ⟨rfl, hw9⟩
  obtain rfl := hw9.symm
  clear hw9
  go_wp2_with fail
  refine (HSH.out _ (by repeat (first | exact HBO.out | (refine Below.drew ?_) | (refine below_drewN' ?_ _) | (refine below_alloc' ?_ _) | (refine Below.setCell ?_ (by first | exact Nat.le_refl _ | (have := HBO.out.size; simp; omega) | (have := HBO.out.size; omega)) _)))).mono ?_
  rintro e ww2 ⟨x1, rfl, hx1, hb9⟩
  have hs9 : Below ww1.heap.size ww1 ww2 := below_trans (by repeat (first | exact Below.refl _ _ | (refine Below.drew ?_) | (refine below_drewN' ?_ _) | (refine below_alloc' ?_ _) | (refine Below.setCell ?_ (by first | exact Nat.le_refl _ | (simp; done) | (simp; omega)) _))) hb9
  replace HBO := Lib.hid (HBO.out.trans ((hs9).mono HBO.out.size))
  replace HPT := Lib.hid (HPT.out.below (hs9))
  have HE := Lib.hid (show ww2.heap[ww1.heap.size]? = some (.cells #[.slice A1 k c1, .int .u64 (en.v : Nat)] 35 (0, 0)) from (hb9.block _ (by simp)).trans (alloc_blk _ _))
  have HX1 := Lib.hid hx1.rd
  obtain ⟨u2, p2, rfl, _, _⟩ := hx1.ex
  clear hx1
  clear hs9 hb9
  go_wp2_with fail
  refine (HRS.out _ (by repeat (first | exact HBO.out | (refine Below.drew ?_) | (refine below_drewN' ?_ _) | (refine below_alloc' ?_ _) | (refine Below.setCell ?_ (by first | exact Nat.le_refl _ | (have := HBO.out.size; simp; omega) | (have := HBO.out.size; omega)) _)))).mono ?_
  rintro e ww3 ⟨x2, rfl, hx2, hb9⟩
  have hs9 : Below ww2.heap.size ww2 ww3 := below_trans (by repeat (first | exact Below.refl _ _ | (refine Below.drew ?_) | (refine below_drewN' ?_ _) | (refine below_alloc' ?_ _) | (refine Below.setCell ?_ (by first | exact Nat.le_refl _ | (simp; done) | (simp; omega)) _))) hb9
  replace HBO := Lib.hid (HBO.out.trans ((hs9).mono HBO.out.size))
  replace HPT := Lib.hid (HPT.out.below (hs9))
  replace HE := Lib.hid (((hs9).block _ (kr_lt HE.out)).trans HE.out)
  replace HX1 := Lib.hid (HX1.out.below (hs9))
  have HX2 := Lib.hid (hx2.rd hb9)
  obtain ⟨u3, p3, rfl, _⟩ := hx2.pt
  clear hx2
  clear hs9 hb9
  go_wp2_with fail
  refine (HSS.out _ _ _ (HX1.out.below (by repeat (first | exact Below.refl _ _ | (refine Below.drew ?_) | (refine below_drewN' ?_ _) | (refine below_alloc' ?_ _) | (refine Below.setCell ?_ (by first | exact Nat.le_refl _ | (simp; done) | (simp; omega)) _)))) (HX2.out.below (by repeat (first | exact Below.refl _ _ | (refine Below.drew ?_) | (refine below_drewN' ?_ _) | (refine below_alloc' ?_ _) | (refine Below.setCell ?_ (by first | exact Nat.le_refl _ | (simp; done) | (simp; omega)) _))))).mono ?_
  rintro e ww4 ⟨rfl, hb9⟩
  have hs9 : Below ww3.heap.size ww3 ww4 := below_trans (by repeat (first | exact Below.refl _ _ | (refine Below.drew ?_) | (refine below_drewN' ?_ _) | (refine below_alloc' ?_ _) | (refine Below.setCell ?_ (by first | exact Nat.le_refl _ | (simp; done) | (simp; omega)) _))) hb9
  replace HBO := Lib.hid (HBO.out.trans ((hs9).mono HBO.out.size))
  replace HPT := Lib.hid (HPT.out.below (hs9))
  replace HE := Lib.hid (((hs9).block _ (kr_lt HE.out)).trans HE.out)
  replace HX1 := Lib.hid (HX1.out.below (hs9))
  clear hs9 hb9
  go_wp2_with fail
  clear HX1 HX2
  refine (HNS.out _ (by repeat (first | exact HBO.out | (refine Below.drew ?_) | (refine below_drewN' ?_ _) | (refine below_alloc' ?_ _) | (refine Below.setCell ?_ (by first | exact Nat.le_refl _ | (have := HBO.out.size; simp; omega) | (have := HBO.out.size; omega)) _)))).mono ?_
  rintro e ww5 ⟨rfl, hb9⟩
  have hs9 : Below ww4.heap.size ww4 ww5 := below_trans (by repeat (first | exact Below.refl _ _ | (refine Below.drew ?_) | (refine below_drewN' ?_ _) | (refine below_alloc' ?_ _) | (refine Below.setCell ?_ (by first | exact Nat.le_refl _ | (simp; done) | (simp; omega)) _))) hb9
  replace HBO := Lib.hid (HBO.out.trans ((hs9).mono HBO.out.size))
  replace HPT := Lib.hid (HPT.out.below (hs9))
  replace HE := Lib.hid (((hs9).block _ (kr_lt HE.out)).trans HE.out)
  clear hs9 hb9
  go_wp2_with fail
  refine (HRU.out _ (by repeat (first | exact HBO.out | (refine Below.drew ?_) | (refine below_drewN' ?_ _) | (refine below_alloc' ?_ _) | (refine Below.setCell ?_ (by first | exact Nat.le_refl _ | (have := HBO.out.size; simp; omega) | (have := HBO.out.size; omega)) _)))).mono ?_
  rintro e ww6 ⟨rfl, hb9⟩
  have hs9 : Below ww5.heap.size ww5 ww6 := below_trans (by repeat (first | exact Below.refl _ _ | (refine Below.drew ?_) | (refine below_drewN' ?_ _) | (refine below_alloc' ?_ _) | (refine Below.setCell ?_ (by first | exact Nat.le_refl _ | (simp; done) | (simp; omega)) _))) hb9
  replace HBO := Lib.hid (HBO.out.trans ((hs9).mono HBO.out.size))
  replace HPT := Lib.hid (HPT.out.below (hs9))
  replace HE := Lib.hid (((hs9).block _ (kr_lt HE.out)).trans HE.out)
  clear hs9 hb9
  go_wp2_with fail
  refine (HLV.out _ (by repeat (first | exact HBO.out | (refine Below.drew ?_) | (refine below_drewN' ?_ _) | (refine below_alloc' ?_ _) | (refine Below.setCell ?_ (by first | exact Nat.le_refl _ | (have := HBO.out.size; simp; omega) | (have := HBO.out.size; omega)) _)))).mono ?_
  rintro e w9 ⟨rfl, hw9⟩
  obtain rfl := hw9.symm
  clear hw9
  go_wp2_with fail
  refine (HRS.out _ (by repeat (first | exact HBO.out | (refine Below.drew ?_) | (refine below_drewN' ?_ _) | (refine below_alloc' ?_ _) | (refine Below.setCell ?_ (by first | exact Nat.le_refl _ | (have := HBO.out.size; simp; omega) | (have := HBO.out.size; omega)) _)))).mono ?_
  rintro e ww7 ⟨x2, rfl, hx2, hb9⟩
  have hs9 : Below ww6.heap.size ww6 ww7 := below_trans (by repeat (first | exact Below.refl _ _ | (refine Below.drew ?_) | (refine below_drewN' ?_ _) | (refine below_alloc' ?_ _) | (refine Below.setCell ?_ (by first | exact Nat.le_refl _ | (simp; done) | (simp; omega)) _))) hb9
  replace HBO := Lib.hid (HBO.out.trans ((hs9).mono HBO.out.size))
  replace HPT := Lib.hid (HPT.out.below (hs9))
  replace HE := Lib.hid (((hs9).block _ (kr_lt HE.out)).trans HE.out)
  obtain ⟨u4, p4, rfl, _⟩ := hx2.pt
  clear hx2
  clear hs9 hb9
  go_wp2_with fail
  refine (HPF.out _ (by repeat (first | exact HBO.out | (refine Below.drew ?_) | (refine below_drewN' ?_ _) | (refine below_alloc' ?_ _) | (refine Below.setCell ?_ (by first | exact Nat.le_refl _ | (have := HBO.out.size; simp; omega) | (have := HBO.out.size; omega)) _)))).mono ?_
  rintro e ww8 ⟨u5, rfl, hp5, hb9⟩
  have hs9 : Below ww7.heap.size ww7 ww8 := below_trans (by repeat (first | exact Below.refl _ _ | (refine Below.drew ?_) | (refine below_drewN' ?_ _) | (refine below_alloc' ?_ _) | (refine Below.setCell ?_ (by first | exact Nat.le_refl _ | (simp; done) | (simp; omega)) _))) hb9
  replace HBO := Lib.hid (HBO.out.trans ((hs9).mono HBO.out.size))
  replace HPT := Lib.hid (HPT.out.below (hs9))
  replace HE := Lib.hid (((hs9).block _ (kr_lt HE.out)).trans HE.out)
  obtain ⟨A5, c5, rfl, _⟩ := RdU.point hp5.rd
  have HP5 := Lib.hid hp5.rd
  clear hp5
  clear hs9 hb9
  go_wp2_with fail
  refine (HRS.out _ (by repeat (first | exact HBO.out | (refine Below.drew ?_) | (refine below_drewN' ?_ _) | (refine below_alloc' ?_ _) | (refine Below.setCell ?_ (by first | exact Nat.le_refl _ | (have := HBO.out.size; simp; omega) | (have := HBO.out.size; omega)) _)))).mono ?_
  rintro e ww9 ⟨x2, rfl, hx2, hb9⟩
  have hs9 : Below ww8.heap.size ww8 ww9 := below_trans (by repeat (first | exact Below.refl _ _ | (refine Below.drew ?_) | (refine below_drewN' ?_ _) | (refine below_alloc' ?_ _) | (refine Below.setCell ?_ (by first | exact Nat.le_refl _ | (simp; done) | (simp; omega)) _))) hb9
  replace HBO := Lib.hid (HBO.out.trans ((hs9).mono HBO.out.size))
  replace HPT := Lib.hid (HPT.out.below (hs9))
  replace HE := Lib.hid (((hs9).block _ (kr_lt HE.out)).trans HE.out)
  replace HP5 := Lib.hid (HP5.out.below (hs9))
  have HX2 := Lib.hid (hx2.rd hb9)
  obtain ⟨u6, p6, rfl, hpt6⟩ := hx2.pt
  have HP6 := Lib.hid (hpt6.1.elim (·.below hb9) (·.rd))
  clear hx2 hpt6 HX2
  obtain ⟨A6, c6, rfl, _⟩ := RdU.point HP6.out
  clear hs9 hb9
  go_wp2_with fail
  refine (HSA.out _ _ _ (HP5.out.below (by repeat (first | exact Below.refl _ _ | (refine Below.drew ?_) | (refine below_drewN' ?_ _) | (refine below_alloc' ?_ _) | (refine Below.setCell ?_ (by first | exact Nat.le_refl _ | (simp; done) | (simp; omega)) _)))) (HP6.out.below (by repeat (first | exact Below.refl _ _ | (refine Below.drew ?_) | (refine below_drewN' ?_ _) | (refine below_alloc' ?_ _) | (refine Below.setCell ?_ (by first | exact Nat.le_refl _ | (simp; done) | (simp; omega)) _))))).mono ?_
  rintro e ww10 ⟨rfl, hb9⟩
  have hs9 : Below ww9.heap.size ww9 ww10 := below_trans (by repeat (first | exact Below.refl _ _ | (refine Below.drew ?_) | (refine below_drewN' ?_ _) | (refine below_alloc' ?_ _) | (refine Below.setCell ?_ (by first | exact Nat.le_refl _ | (simp; done) | (simp; omega)) _))) hb9
  replace HBO := Lib.hid (HBO.out.trans ((hs9).mono HBO.out.size))
  replace HPT := Lib.hid (HPT.out.below (hs9))
  replace HE := Lib.hid (((hs9).block _ (kr_lt HE.out)).trans HE.out)
  replace HP5 := Lib.hid (HP5.out.below (hs9))
  replace HP6 := Lib.hid (HP6.out.below (hs9))
  clear HP5 HP6
  clear hs9 hb9
  have f0 : ww10.cell? ⟨ww1.heap.size, 0, none⟩ = some (.slice A1 k c1) := by simp [World.cell?, HE.out]
  have f1 : ww10.cell? ⟨ww1.heap.size, 1, none⟩ = some (.int .u64 (en.v : Nat)) := by simp [World.cell?, HE.out]
  have hE := kr_lt HE.out
  have g0 := Below.keeps HBO.out _ _ k0
  have g1 := Below.keeps HBO.out _ _ k1'
  have hb2 := World.block_lt_of_cell? _ _ g0
  go_wp2_with fail
  refine wp_region_vals 16 [fun z9 _ => z9 = .pointer (some ⟨ww1.heap.size, 1, none⟩),
    fun z9 _ => z9 = .int .u64 (en.v : Nat),
    fun z9 _ => z9 = .slice (some ⟨b2, o2, none⟩) 1 c,
    fun z9 _ => z9 = .pointer (some ⟨b2, o2, none⟩),
    fun z9 _ => z9 = .pointer (some ⟨b2, o2 + 1, none⟩),
    fun z9 _ => z9 = .int .u64 (en.v : Nat),
    fun z9 _ => z9 = .bool true,
    fun z9 _ => z9 = .bool true,
    fun z9 _ => z9 = .pointer (some ⟨ww1.heap.size, 0, none⟩),
    fun z9 _ => z9 = .slice A1 k c1,
    fun z9 _ => z9 = .slice (some ⟨b2, o2, none⟩) 1 c,
    fun z9 _ => z9 = .pointer (some ⟨b2, o2, none⟩),
    fun z9 _ => z9 = .pointer (some ⟨b2, o2, none⟩),
    fun z9 _ => z9 = .slice Ax k cx,
    fun z9 _ => z9 = .bool true,
    fun z9 _ => z9 = .bool true]
    (by kernel_rfl) (by kernel_rfl) (by kernel_rfl) (by kernel_rfl) ?_ ?_ ?_
  · intro V hV v w1 w2 h hb
    simp only [List.mem_cons, List.not_mem_nil, or_false] at hV
    rcases hV with rfl | rfl | rfl | rfl | rfl | rfl | rfl | rfl | rfl | rfl | rfl | rfl | rfl | rfl | rfl | rfl
    all_goals first | exact h | (exact h)
  · intro iq oq hiq hoq
    match iq, hiq with
    | 0, _ =>
    obtain rfl := Option.some.inj hoq
    intro a1 w1 K hk hK
    have e6 : a1.tmps.getD 6 undef = .pointer (some ⟨ww1.heap.size, 0, none⟩) := hk.same 6 (by simp)
    simp [Region.wanted, Oper.wp, Act.eval, go_sem, e6, f0, f1, g0, g1, hE, hb2]
    exact hK _ _ (Below.refl _ _) rfl
    | 1, _ =>
    obtain rfl := Option.some.inj hoq
    intro a1 w1 K hk hK
    have d68 : a1.tmps.getD 68 undef = .pointer (some ⟨ww1.heap.size, 1, none⟩) := hk.deps ⟨0, .data⟩ (by simp) rfl _ _ rfl rfl
    have c0 : w1.cell? ⟨ww1.heap.size, 0, none⟩ = some (.slice A1 k c1) := Below.keeps hk.ext _ _ (by simp [go_sem, f0, f1, g0, g1, hE, hb2])
    have c1 : w1.cell? ⟨ww1.heap.size, 1, none⟩ = some (.int .u64 (en.v : Nat)) := Below.keeps hk.ext _ _ (by simp [go_sem, f0, f1, g0, g1, hE, hb2])
    have c2 : w1.cell? ⟨b2, o2, none⟩ = some (.slice Ax k cx) := Below.keeps hk.ext _ _ (by simp [go_sem, f0, f1, g0, g1, hE, hb2])
    have c3 : w1.cell? ⟨b2, o2 + 1, none⟩ = some (.int .u64 (en.v : Nat)) := Below.keeps hk.ext _ _ (by simp [go_sem, f0, f1, g0, g1, hE, hb2])
    simp [Region.wanted, Oper.wp, Act.eval, go_sem, d68, c0, c1, c2, c3, f0, f1, g0, g1, hE, hb2]
    exact hK _ _ (Below.refl _ _) rfl
    | 2, _ =>
    obtain rfl := Option.some.inj hoq
    intro a1 w1 K hk hK
    have e1 : a1.tmps.getD 1 undef = .slice (some ⟨b2, o2, none⟩) 1 c := hk.same 1 (by simp)
    simp [Region.wanted, Oper.wp, Act.eval, go_sem, e1, f0, f1, g0, g1, hE, hb2]
    exact hK _ _ (Below.refl _ _) rfl
    | 3, _ =>
    obtain rfl := Option.some.inj hoq
    intro a1 w1 K hk hK
    have d70 : a1.tmps.getD 70 undef = .slice (some ⟨b2, o2, none⟩) 1 c := hk.deps ⟨2, .data⟩ (by simp) rfl _ _ rfl rfl
    simp [Region.wanted, Oper.wp, Act.eval, go_sem, d70, f0, f1, g0, g1, hE, hb2]
    exact hK _ _ (Below.refl _ _) rfl
    | 4, _ =>
    obtain rfl := Option.some.inj hoq
    intro a1 w1 K hk hK
    have d71 : a1.tmps.getD 71 undef = .pointer (some ⟨b2, o2, none⟩) := hk.deps ⟨3, .data⟩ (by simp) rfl _ _ rfl rfl
    simp [Region.wanted, Oper.wp, Act.eval, go_sem, d71, f0, f1, g0, g1, hE, hb2]
    exact hK _ _ (Below.refl _ _) rfl
    | 5, _ =>
    obtain rfl := Option.some.inj hoq
    intro a1 w1 K hk hK
    have d72 : a1.tmps.getD 72 undef = .pointer (some ⟨b2, o2 + 1, none⟩) := hk.deps ⟨4, .data⟩ (by simp) rfl _ _ rfl rfl
    have c0 : w1.cell? ⟨ww1.heap.size, 0, none⟩ = some (.slice A1 k c1) := Below.keeps hk.ext _ _ (by simp [go_sem, f0, f1, g0, g1, hE, hb2])
    have c1 : w1.cell? ⟨ww1.heap.size, 1, none⟩ = some (.int .u64 (en.v : Nat)) := Below.keeps hk.ext _ _ (by simp [go_sem, f0, f1, g0, g1, hE, hb2])
    have c2 : w1.cell? ⟨b2, o2, none⟩ = some (.slice Ax k cx) := Below.keeps hk.ext _ _ (by simp [go_sem, f0, f1, g0, g1, hE, hb2])
    have c3 : w1.cell? ⟨b2, o2 + 1, none⟩ = some (.int .u64 (en.v : Nat)) := Below.keeps hk.ext _ _ (by simp [go_sem, f0, f1, g0, g1, hE, hb2])
    simp [Region.wanted, Oper.wp, Act.eval, go_sem, d72, c0, c1, c2, c3, f0, f1, g0, g1, hE, hb2]
    exact hK _ _ (Below.refl _ _) rfl
    | 6, _ =>
    obtain rfl := Option.some.inj hoq
    intro a1 w1 K hk hK
    have d69 : a1.tmps.getD 69 undef = .int .u64 (en.v : Nat) := hk.deps ⟨1, .data⟩ (by simp) rfl _ _ rfl rfl
    have d73 : a1.tmps.getD 73 undef = .int .u64 (en.v : Nat) := hk.deps ⟨5, .data⟩ (by simp) rfl _ _ rfl rfl
    simp [Region.wanted, Oper.wp, Act.eval, go_sem, d69, d73, f0, f1, g0, g1, hE, hb2]
    exact hK _ _ (Below.refl _ _) rfl
    | 7, _ =>
    obtain rfl := Option.some.inj hoq
    intro a1 w1 K hk hK
    have d74 : a1.tmps.getD 74 undef = .bool true := hk.deps ⟨6, .data⟩ (by simp) rfl _ _ rfl rfl
    simp [Region.wanted, Oper.wp, Act.eval, go_sem, d74, f0, f1, g0, g1, hE, hb2]
    exact hK _ _ (Below.refl _ _) rfl
    | 8, _ =>
    obtain rfl := Option.some.inj hoq
    intro a1 w1 K hk hK
    have e6 : a1.tmps.getD 6 undef = .pointer (some ⟨ww1.heap.size, 0, none⟩) := hk.same 6 (by simp)
    have gd : a1.tmps[75]? = some (.bool true) := getD_bool (hk.deps ⟨7, .guard⟩ (by simp) rfl _ _ rfl rfl)
    simp [Region.wanted, Oper.wp, Act.eval, go_sem, e6, gd, yielded, f0, f1, g0, g1, hE, hb2]
    exact hK _ _ (Below.refl _ _) rfl
    | 9, _ =>
    obtain rfl := Option.some.inj hoq
    intro a1 w1 K hk hK
    have d76 : a1.tmps.getD 76 undef = .pointer (some ⟨ww1.heap.size, 0, none⟩) := hk.deps ⟨8, .data⟩ (by simp) rfl _ _ rfl rfl
    have gd : a1.tmps[75]? = some (.bool true) := getD_bool (hk.deps ⟨7, .guard⟩ (by simp) rfl _ _ rfl rfl)
    have c0 : w1.cell? ⟨ww1.heap.size, 0, none⟩ = some (.slice A1 k c1) := Below.keeps hk.ext _ _ (by simp [go_sem, f0, f1, g0, g1, hE, hb2])
    have c1 : w1.cell? ⟨ww1.heap.size, 1, none⟩ = some (.int .u64 (en.v : Nat)) := Below.keeps hk.ext _ _ (by simp [go_sem, f0, f1, g0, g1, hE, hb2])
    have c2 : w1.cell? ⟨b2, o2, none⟩ = some (.slice Ax k cx) := Below.keeps hk.ext _ _ (by simp [go_sem, f0, f1, g0, g1, hE, hb2])
    have c3 : w1.cell? ⟨b2, o2 + 1, none⟩ = some (.int .u64 (en.v : Nat)) := Below.keeps hk.ext _ _ (by simp [go_sem, f0, f1, g0, g1, hE, hb2])
    simp [Region.wanted, Oper.wp, Act.eval, go_sem, d76, gd, yielded, c0, c1, c2, c3, f0, f1, g0, g1, hE, hb2]
    exact hK _ _ (Below.refl _ _) rfl
    | 10, _ =>
    obtain rfl := Option.some.inj hoq
    intro a1 w1 K hk hK
    have e1 : a1.tmps.getD 1 undef = .slice (some ⟨b2, o2, none⟩) 1 c := hk.same 1 (by simp)
    have gd : a1.tmps[75]? = some (.bool true) := getD_bool (hk.deps ⟨7, .guard⟩ (by simp) rfl _ _ rfl rfl)
    simp [Region.wanted, Oper.wp, Act.eval, go_sem, e1, gd, yielded, f0, f1, g0, g1, hE, hb2]
    exact hK _ _ (Below.refl _ _) rfl
    | 11, _ =>
    obtain rfl := Option.some.inj hoq
    intro a1 w1 K hk hK
    have d78 : a1.tmps.getD 78 undef = .slice (some ⟨b2, o2, none⟩) 1 c := hk.deps ⟨10, .data⟩ (by simp) rfl _ _ rfl rfl
    have gd : a1.tmps[75]? = some (.bool true) := getD_bool (hk.deps ⟨7, .guard⟩ (by simp) rfl _ _ rfl rfl)
    simp [Region.wanted, Oper.wp, Act.eval, go_sem, d78, gd, yielded, f0, f1, g0, g1, hE, hb2]
    exact hK _ _ (Below.refl _ _) rfl
    | 12, _ =>
    obtain rfl := Option.some.inj hoq
    intro a1 w1 K hk hK
    have d79 : a1.tmps.getD 79 undef = .pointer (some ⟨b2, o2, none⟩) := hk.deps ⟨11, .data⟩ (by simp) rfl _ _ rfl rfl
    have gd : a1.tmps[75]? = some (.bool true) := getD_bool (hk.deps ⟨7, .guard⟩ (by simp) rfl _ _ rfl rfl)
    simp [Region.wanted, Oper.wp, Act.eval, go_sem, d79, gd, yielded, f0, f1, g0, g1, hE, hb2]
    exact hK _ _ (Below.refl _ _) rfl
    | 13, _ =>
    obtain rfl := Option.some.inj hoq
    intro a1 w1 K hk hK
    have d80 : a1.tmps.getD 80 undef = .pointer (some ⟨b2, o2, none⟩) := hk.deps ⟨12, .data⟩ (by simp) rfl _ _ rfl rfl
    have gd : a1.tmps[75]? = some (.bool true) := getD_bool (hk.deps ⟨7, .guard⟩ (by simp) rfl _ _ rfl rfl)
    have c0 : w1.cell? ⟨ww1.heap.size, 0, none⟩ = some (.slice A1 k c1) := Below.keeps hk.ext _ _ (by simp [go_sem, f0, f1, g0, g1, hE, hb2])
    have c1 : w1.cell? ⟨ww1.heap.size, 1, none⟩ = some (.int .u64 (en.v : Nat)) := Below.keeps hk.ext _ _ (by simp [go_sem, f0, f1, g0, g1, hE, hb2])
    have c2 : w1.cell? ⟨b2, o2, none⟩ = some (.slice Ax k cx) := Below.keeps hk.ext _ _ (by simp [go_sem, f0, f1, g0, g1, hE, hb2])
    have c3 : w1.cell? ⟨b2, o2 + 1, none⟩ = some (.int .u64 (en.v : Nat)) := Below.keeps hk.ext _ _ (by simp [go_sem, f0, f1, g0, g1, hE, hb2])
    simp [Region.wanted, Oper.wp, Act.eval, go_sem, d80, gd, yielded, c0, c1, c2, c3, f0, f1, g0, g1, hE, hb2]
    exact hK _ _ (Below.refl _ _) rfl
    | 14, _ =>
    obtain rfl := Option.some.inj hoq
    intro a1 w1 K hk hK
    have d77 : a1.tmps.getD 77 undef = .slice A1 k c1 := hk.deps ⟨9, .data⟩ (by simp) rfl _ _ rfl rfl
    have d81 : a1.tmps.getD 81 undef = .slice Ax k cx := hk.deps ⟨13, .data⟩ (by simp) rfl _ _ rfl rfl
    have gd : a1.tmps[75]? = some (.bool true) := getD_bool (hk.deps ⟨7, .guard⟩ (by simp) rfl _ _ rfl rfl)
    simp [Region.wanted, Oper.wp, Act.eval, go_sem, d77, d81, gd, yielded, f0, f1, g0, g1, hE, hb2]
    refine (HS2.out _ _ _ (HPT.out.rd.below (below_trans (by repeat (first | exact Below.refl _ _ | (refine Below.drew ?_) | (refine below_drewN' ?_ _) | (refine below_alloc' ?_ _) | (refine Below.setCell ?_ (by first | exact Nat.le_refl _ | (simp; done) | (simp; omega)) _))) hk.ext)) (HV0.out.1.below (below_trans (by repeat (first | exact HBO.out | (refine Below.drew ?_) | (refine below_drewN' ?_ _) | (refine below_alloc' ?_ _) | (refine Below.setCell ?_ (by first | exact Nat.le_refl _ | (have := HBO.out.size; simp; omega) | (have := HBO.out.size; omega)) _))) hk.ext))).mono ?_
    rintro e w9 ⟨rfl, hb9⟩
    exact hK _ _ hb9 rfl
    | 15, _ =>
    obtain rfl := Option.some.inj hoq
    intro a1 w1 K hk hK
    have d75 : a1.tmps.getD 75 undef = .bool true := hk.deps ⟨7, .data⟩ (by simp) rfl _ _ rfl rfl
    have d82 : a1.tmps.getD 82 undef = .bool true := hk.deps ⟨14, .data⟩ (by simp) rfl _ _ rfl rfl
    simp [Region.wanted, Oper.wp, Act.eval, go_sem, d75, d82, f0, f1, g0, g1, hE, hb2]
    exact hK _ _ (Below.refl _ _) rfl
    | k + 16, hk => exact absurd hk (by omega)
  · intro vs w3 hl hb3 hv
    match vs, hl with
    | [v0, v1, v2, v3, v4, v5, v6, v7, v8, v9, v10, v11, v12, v13, v14, v15], _ =>
    obtain rfl : v0 = .pointer (some ⟨ww1.heap.size, 1, none⟩) := hv 0 (by omega)
    obtain rfl : v1 = .int .u64 (en.v : Nat) := hv 1 (by omega)
    obtain rfl : v2 = .slice (some ⟨b2, o2, none⟩) 1 c := hv 2 (by omega)
    obtain rfl : v3 = .pointer (some ⟨b2, o2, none⟩) := hv 3 (by omega)
    obtain rfl : v4 = .pointer (some ⟨b2, o2 + 1, none⟩) := hv 4 (by omega)
    obtain rfl : v5 = .int .u64 (en.v : Nat) := hv 5 (by omega)
    obtain rfl : v6 = .bool true := hv 6 (by omega)
    obtain rfl : v7 = .bool true := hv 7 (by omega)
    obtain rfl : v8 = .pointer (some ⟨ww1.heap.size, 0, none⟩) := hv 8 (by omega)
    obtain rfl : v9 = .slice A1 k c1 := hv 9 (by omega)
    obtain rfl : v10 = .slice (some ⟨b2, o2, none⟩) 1 c := hv 10 (by omega)
    obtain rfl : v11 = .pointer (some ⟨b2, o2, none⟩) := hv 11 (by omega)
    obtain rfl : v12 = .pointer (some ⟨b2, o2, none⟩) := hv 12 (by omega)
    obtain rfl : v13 = .slice Ax k cx := hv 13 (by omega)
    obtain rfl : v14 = .bool true := hv 14 (by omega)
    obtain rfl : v15 = .bool true := hv 15 (by omega)
    clear hv
    simp only [putAll, List.take_succ_cons, List.take_zero, List.drop_succ_cons, List.drop_zero, Act.put, List.setIfInBounds_toArray, List.set_cons_succ, List.set_cons_zero]
    clear f0 f1 g0 g1
    have HF := Lib.hid (below_trans (by repeat (first | exact HBO.out | (refine Below.drew ?_) | (refine below_drewN' ?_ _) | (refine below_alloc' ?_ _) | (refine Below.setCell ?_ (by first | exact Nat.le_refl _ | (have := HBO.out.size; simp; omega) | (have := HBO.out.size; omega)) _))) hb3)
    clear hb3
    go_wp2_with fail
    go_ret
    exact ⟨rfl, HF.out⟩
set_option maxHeartbeats 4000000 in
theorem is06_node (w : World) (k b s n : Nat) (pre : List Nat) (ks : List (Nat × Nat × List En)) (l : List En) (v : Value) (hlk : l = cat (ks.map kl)) (hnd : Nd w k b l) (y3 : w.cell? ⟨b, 3, none⟩ = some (.pointer (some ⟨s, 0, none⟩))) (hs : SlR w s k (ks.map kb)) (hkd : Kd k n pre (ks.map kl))
    (ih : ∀ x ∈ ks, ∀ (w1 : World) (v : Value), Below w.heap.size w w1 → RdE w1 v x.2.2 → EtS k x.2.2 → Calls Tryz.prog 79 #[.pointer (some ⟨x.2.1, 0, none⟩), v] w1 fun e w' => e = .returned (.bool true) ∧ Below w1.heap.size w1 w')
    (hv0 : RdE w v l) (he : EtS k l) (k1 : 1 ≤ k) (k16 : k ≤ 16) :
    Calls Tryz.prog 79 #[.pointer (some ⟨b, 0, none⟩), v] w fun e w' => e = .returned (.bool true) ∧ Below w.heap.size w w' := by
  have HEN := Lib.hid (fun w' (hb : Below w.heap.size w w') => ent_node w' b s (Below.keeps hb _ _ y3))
  have hlev : lev l = n + 1 := by rw [hlk, hkd.lev]
  have hl2 : 2 ≤ l.length := by rw [hlk]; exact hkd.two_le
  have HKS := Lib.hid (fun w' (hb : Below w.heap.size w w') => rKids_any k n l v w w' hv0 hb he hlev (by omega))
  rw [show kidsL l = ks.map (·.2.2) by rw [hlk, hkd.kids, List.map_map]; rfl] at HKS
  obtain ⟨va, kp, hh⟩ := hnd.hd
  obtain ⟨hpl, hpo, _⟩ := hnd.pre_ok
  have HNE := hnd.ne
  have hnl : 0 < l.length := List.length_pos_iff.2 HNE
  obtain ⟨u, c1, hu⟩ := hh.c1
  have HUP := Lib.hid (And.intro hu hpl)
  obtain ⟨A0, c0, rfl, _⟩ := RdU.point hu
  have HRS := Lib.hid (fun w' (hb : Below w.heap.size w w') => rShape_nd hnd.tn w w' v hv0 hb he)
  have HRU := Lib.hid (fun w' (hb : Below w.heap.size w w') => rSums_any w' l v (hv0.below hb) hnd.vals he.short)
  have HK := Lib.hid (fun w' (hb : Below w.heap.size w w') => nk_any w' b k A0 c0 (by have := Below.keeps hb _ _ c1; rw [hpl] at this; exact this))
  have HSH := Lib.hid (fun w' (hb : Below w.heap.size w w') => nshape_any w' k b l (hnd.bel hb) k1 k16)
  have HSS := Lib.hid (fun w' x y (hx : ShR w' x (shL l)) (hy : ShR w' y (shL l)) => rSameShape w' x y (shL l) hx hy (by rw [hnd.tn.sh_pre, hpl]; omega) (Nat.le_trans (hnd.tn.sh_pl) (by have := he.short; omega)))
  have HNS := Lib.hid (fun w' (hb : Below w.heap.size w w') => nsums_any w' b _ _ _ _ _ (hh.keep hb))
  have HLV := Lib.hid (fun w' (hb : Below w.heap.size w w') => nlev_any w' b _ (Below.keeps hb _ _ hh.c0))
  have HPF := Lib.hid (fun w' (hb : Below w.heap.size w w') => npref_any w' b (preL l) _ (Below.keeps hb _ _ c1) (hu.below hb) (by rw [hpl]; exact k1) (by rw [hpl]; exact k16))
  have HSA := Lib.hid (fun w' u u2 (h1 : RdU w' u (pti (preL l))) (h2 : RdU w' u2 (pti (shL l).pre)) => (Same_any u u2 _ _ w' h1 h2 (by unfold pti; rw [List.length_map, hpl]; omega)).mono fun e w'' ⟨q1, q2⟩ => (⟨by rw [q1, hnd.tn.sh_pre, decide_eq_true rfl], q2.elim fun n hn => hn ▸ drewN_below _ _⟩ : e = Ending.returned (.bool true) ∧ Below w'.heap.size w' w''))
  have hlv : (shL l).lv = (lev l : Int) - 1 := hnd.tn.sh_lv
  rw [← hlv] at HLV
  obtain ⟨A, c, rfl, _, hx⟩ := hv0
  obtain ⟨b2, o2, rfl, hc⟩ := hx hnl
  obtain ⟨ux, k0, kux, k1'⟩ := hc 0 hnl
  have e0 : l[0].p.length = k := he.et.len _ (List.getElem_mem hnl)
  simp only [Nat.zero_mul, Nat.add_zero] at k0 k1'
  have HV0 := Lib.hid (And.intro kux (And.intro k0 k1'))
  obtain ⟨Ax, cx, rfl, _⟩ := RdU.point kux
  rw [e0] at k0 HV0
  have HPL := Lib.hid e0
  clear e0
  have hsn := sums_neq (sumsL l)
  have hsg := sums_grd (sumsL l)
  have hfd0 : ∀ (z : Int) (u p : Value) (d : Bool) (x : Int) (w : World), (Instr.field 222 (.agg #[.int .i64 z, u, p, .bool d, .int .u64 x]) 0).run Tryz.prog w = .ok (.int .i64 z) w := fun _ _ _ _ _ _ => by kernel_rfl
  have hfd1 : ∀ (z : Int) (A : Option Addr) (n c : Nat) (p : Value) (d : Bool) (x : Int) (w : World), (Instr.field 222 (.agg #[.int .i64 z, .slice A n c, p, .bool d, .int .u64 x]) 1).run Tryz.prog w = .ok (.slice A n c) w := fun _ _ _ _ _ _ _ _ => by kernel_rfl
  have hnn : (0 : Int) < (l.length : Int) := by omega
  have hlz := World.block_lt_of_cell? w _ k0
  have ne0 : ((k : Int) != (k : Int)) = false := by simp
  have ne1 : ((shL l).lv != (shL l).lv) = false := by simp
  clear c1 hu hh hpo hlv HUP kux

  have hlvn : (shL l).lv = (n : Int) := by rw [hlk, hkd.sh]
  have hk2 := hkd.two
  rw [List.length_map] at hk2
  have hcl : ks.length ≤ l.length ∧ ∀ x ∈ ks, x.2.2.length ≤ l.length := by
    rw [hlk]
    have := cat_length (ks.map kl) hkd.ne
    rw [List.length_map] at this
    refine ⟨this.1, fun x hx => ?_⟩
    have := this.2 (kl x) (List.mem_map_of_mem hx)
    have e : (kl x).2 = x.2.2 := rfl
    rw [e] at this
    omega
  have HIH := Lib.hid (fun j (hj : j < ks.length) w' v' (hb : Below w.heap.size w w') (hr : RdE w' v' ks[j].2.2) => ih ks[j] (List.getElem_mem hj) w' v' hb hr ⟨hkd.et (kl ks[j]) (List.mem_map_of_mem (List.getElem_mem hj)), he.k40, Nat.le_trans (hcl.2 _ (List.getElem_mem hj)) he.short⟩)
  have HKID := Lib.hid (fun j (hj : j < ks.length) w' (hb : Below w.heap.size w w') => (show Calls Tryz.prog 137 #[.pointer (some ⟨b, 0, none⟩), .int .i64 (ks[j].1 : Nat)] w' fun e w'' => e = .returned (pv (some ks[j].2.1)) ∧ Below w'.heap.size w' w'' from by
    have h1 := nkid_any w' b s k (ks.map kb) (ks[j].1 : Nat) (Below.keeps hb _ _ y3) (hs.below hb)
    have e : lookI (ks.map kb) (ks[j].1 : Nat) = some ks[j].2.1 := by
      unfold lookI
      rw [if_neg (by omega), Int.toNat_natCast]
      have := Od.look_mem (key := ka) hs.rw'.asc (x := kb ks[j]) (List.mem_map_of_mem (List.getElem_mem hj))
      rw [show ka (kb ks[j]) = ks[j].1 from rfl] at this
      rw [this]; rfl
    rw [e] at h1
    exact h1))
  have HADR := Lib.hid (fun j (hj : j < ks.length) (hj0 : 0 < ks[j].2.2.length) w' u (hu : RdU w' u (pti ks[j].2.2[0].p)) => (show Calls Tryz.prog 142 #[u, .int .i64 (shL l).lv] w' fun e w'' => e = .returned (.int .i64 (ks[j].1 : Nat)) ∧ Below w'.heap.size w' w'' from by
    have hm := List.mem_map_of_mem (f := kl) (List.getElem_mem hj)
    have he0 : ks[j].2.2[0] ∈ (kl ks[j]).2 := List.getElem_mem hj0
    rw [hlvn]
    refine (rAddr_any _ n u w' hu (by rw [hkd.len hm he0]; omega) (hkd.ok hm he0) hkd.n64).mono ?_
    rintro e w'' ⟨h1, h2⟩
    exact ⟨by rw [h1, hkd.adr _ hm _ he0]; rfl, h2 ▸ Below.refl _ _⟩))
  have HKL := Lib.hid (fun j (hj : j < ks.length) => (show 0 < ks[j].2.2.length ∧ ∀ (h : 0 < ((ks[j]'hj).2.2).length), (((ks[j]'hj).2.2)[0]'h).p.length = k from
    ⟨List.length_pos_iff.2 (hkd.ne (kl ks[j]) (List.mem_map_of_mem (List.getElem_mem hj))), fun h => hkd.len (x := kl ks[j]) (e := ks[j].2.2[0]'h) (List.mem_map_of_mem (List.getElem_mem hj)) (by show _ ∈ ks[j].2.2; exact List.getElem_mem h)⟩))
  have HLN := Lib.hid (Nat.le_trans hcl.1 he.short)
  have hle1 : ((l.length : Int) == 1) = false := by rw [beq_eq_false_iff_ne]; omega
  have HK2 := Lib.hid hk2
  clear hnd HNE he k1 k16 hpl hc hx hs hkd ih y3 hlev hl2 hlvn hcl hlk k1' hk2
  generalize (l[0]) = en at *
  generalize l.length = n0 at *
  generalize shL l = SL at *
  generalize sumsL l = SM at *
  have HBO := Lib.hid (Below.refl w.heap.size w)
  go_enter Tryz.func79, Tryz.ntmps79
  go_wp2_with fail
  refine (HEN.out _ (Below.refl _ _)).mono ?_
  rintro e ww1 ⟨rfl, hb9⟩
  have hs9 : Below w.heap.size w ww1 := below_trans (by repeat (first | exact Below.refl _ _ | (refine Below.drew ?_) | (refine below_drewN' ?_ _) | (refine below_alloc' ?_ _) | (refine Below.setCell ?_ (by first | exact Nat.le_refl _ | (simp; done) | (simp; omega)) _))) hb9
  replace HBO := Lib.hid (HBO.out.trans ((hs9).mono HBO.out.size))
  clear hs9 hb9
  go_wp2_with fail
  refine (HK.out _ (by repeat (first | exact HBO.out | (refine Below.drew ?_) | (refine below_drewN' ?_ _) | (refine below_alloc' ?_ _) | (refine Below.setCell ?_ (by first | exact Nat.le_refl _ | (have := HBO.out.size; simp; omega) | (have := HBO.out.size; omega)) _)))).mono ?_
  rintro e w9 ⟨rfl, hw9⟩
  obtain rfl := hw9.symm
  clear hw9
  go_wp2_with fail
  refine (HSH.out _ (by repeat (first | exact HBO.out | (refine Below.drew ?_) | (refine below_drewN' ?_ _) | (refine below_alloc' ?_ _) | (refine Below.setCell ?_ (by first | exact Nat.le_refl _ | (have := HBO.out.size; simp; omega) | (have := HBO.out.size; omega)) _)))).mono ?_
  rintro e ww2 ⟨x1, rfl, hx1, hb9⟩
  have hs9 : Below ww1.heap.size ww1 ww2 := below_trans (by repeat (first | exact Below.refl _ _ | (refine Below.drew ?_) | (refine below_drewN' ?_ _) | (refine below_alloc' ?_ _) | (refine Below.setCell ?_ (by first | exact Nat.le_refl _ | (simp; done) | (simp; omega)) _))) hb9
  replace HBO := Lib.hid (HBO.out.trans ((hs9).mono HBO.out.size))
  have HE := Lib.hid (show ww2.heap[ww1.heap.size]? = some (.cells #[.slice none 0 0, .int .u64 0] 35 (0, 0)) from (hb9.block _ (by simp)).trans (alloc_blk _ _))
  have HX1 := Lib.hid hx1.rd
  obtain ⟨u2, p2, rfl, _, _⟩ := hx1.ex
  clear hx1
  clear hs9 hb9
  go_wp2_with fail
  refine (HRS.out _ (by repeat (first | exact HBO.out | (refine Below.drew ?_) | (refine below_drewN' ?_ _) | (refine below_alloc' ?_ _) | (refine Below.setCell ?_ (by first | exact Nat.le_refl _ | (have := HBO.out.size; simp; omega) | (have := HBO.out.size; omega)) _)))).mono ?_
  rintro e ww3 ⟨x2, rfl, hx2, hb9⟩
  have hs9 : Below ww2.heap.size ww2 ww3 := below_trans (by repeat (first | exact Below.refl _ _ | (refine Below.drew ?_) | (refine below_drewN' ?_ _) | (refine below_alloc' ?_ _) | (refine Below.setCell ?_ (by first | exact Nat.le_refl _ | (simp; done) | (simp; omega)) _))) hb9
  replace HBO := Lib.hid (HBO.out.trans ((hs9).mono HBO.out.size))
  replace HE := Lib.hid (((hs9).block _ (kr_lt HE.out)).trans HE.out)
  replace HX1 := Lib.hid (HX1.out.below (hs9))
  have HX2 := Lib.hid (hx2.rd hb9)
  obtain ⟨u3, p3, rfl, _⟩ := hx2.pt
  clear hx2
  clear hs9 hb9
  go_wp2_with fail
  refine (HSS.out _ _ _ (HX1.out.below (by repeat (first | exact Below.refl _ _ | (refine Below.drew ?_) | (refine below_drewN' ?_ _) | (refine below_alloc' ?_ _) | (refine Below.setCell ?_ (by first | exact Nat.le_refl _ | (simp; done) | (simp; omega)) _)))) (HX2.out.below (by repeat (first | exact Below.refl _ _ | (refine Below.drew ?_) | (refine below_drewN' ?_ _) | (refine below_alloc' ?_ _) | (refine Below.setCell ?_ (by first | exact Nat.le_refl _ | (simp; done) | (simp; omega)) _))))).mono ?_
  rintro e ww4 ⟨rfl, hb9⟩
  have hs9 : Below ww3.heap.size ww3 ww4 := below_trans (by repeat (first | exact Below.refl _ _ | (refine Below.drew ?_) | (refine below_drewN' ?_ _) | (refine below_alloc' ?_ _) | (refine Below.setCell ?_ (by first | exact Nat.le_refl _ | (simp; done) | (simp; omega)) _))) hb9
  replace HBO := Lib.hid (HBO.out.trans ((hs9).mono HBO.out.size))
  replace HE := Lib.hid (((hs9).block _ (kr_lt HE.out)).trans HE.out)
  replace HX1 := Lib.hid (HX1.out.below (hs9))
  clear hs9 hb9
  go_wp2_with fail
  clear HX1 HX2
  refine (HNS.out _ (by repeat (first | exact HBO.out | (refine Below.drew ?_) | (refine below_drewN' ?_ _) | (refine below_alloc' ?_ _) | (refine Below.setCell ?_ (by first | exact Nat.le_refl _ | (have := HBO.out.size; simp; omega) | (have := HBO.out.size; omega)) _)))).mono ?_
  rintro e ww5 ⟨rfl, hb9⟩
  have hs9 : Below ww4.heap.size ww4 ww5 := below_trans (by repeat (first | exact Below.refl _ _ | (refine Below.drew ?_) | (refine below_drewN' ?_ _) | (refine below_alloc' ?_ _) | (refine Below.setCell ?_ (by first | exact Nat.le_refl _ | (simp; done) | (simp; omega)) _))) hb9
  replace HBO := Lib.hid (HBO.out.trans ((hs9).mono HBO.out.size))
  replace HE := Lib.hid (((hs9).block _ (kr_lt HE.out)).trans HE.out)
  clear hs9 hb9
  go_wp2_with fail
  refine (HRU.out _ (by repeat (first | exact HBO.out | (refine Below.drew ?_) | (refine below_drewN' ?_ _) | (refine below_alloc' ?_ _) | (refine Below.setCell ?_ (by first | exact Nat.le_refl _ | (have := HBO.out.size; simp; omega) | (have := HBO.out.size; omega)) _)))).mono ?_
  rintro e ww6 ⟨rfl, hb9⟩
  have hs9 : Below ww5.heap.size ww5 ww6 := below_trans (by repeat (first | exact Below.refl _ _ | (refine Below.drew ?_) | (refine below_drewN' ?_ _) | (refine below_alloc' ?_ _) | (refine Below.setCell ?_ (by first | exact Nat.le_refl _ | (simp; done) | (simp; omega)) _))) hb9
  replace HBO := Lib.hid (HBO.out.trans ((hs9).mono HBO.out.size))
  replace HE := Lib.hid (((hs9).block _ (kr_lt HE.out)).trans HE.out)
  clear hs9 hb9
  go_wp2_with fail
  refine (HLV.out _ (by repeat (first | exact HBO.out | (refine Below.drew ?_) | (refine below_drewN' ?_ _) | (refine below_alloc' ?_ _) | (refine Below.setCell ?_ (by first | exact Nat.le_refl _ | (have := HBO.out.size; simp; omega) | (have := HBO.out.size; omega)) _)))).mono ?_
  rintro e w9 ⟨rfl, hw9⟩
  obtain rfl := hw9.symm
  clear hw9
  go_wp2_with fail
  refine (HRS.out _ (by repeat (first | exact HBO.out | (refine Below.drew ?_) | (refine below_drewN' ?_ _) | (refine below_alloc' ?_ _) | (refine Below.setCell ?_ (by first | exact Nat.le_refl _ | (have := HBO.out.size; simp; omega) | (have := HBO.out.size; omega)) _)))).mono ?_
  rintro e ww7 ⟨x2, rfl, hx2, hb9⟩
  have hs9 : Below ww6.heap.size ww6 ww7 := below_trans (by repeat (first | exact Below.refl _ _ | (refine Below.drew ?_) | (refine below_drewN' ?_ _) | (refine below_alloc' ?_ _) | (refine Below.setCell ?_ (by first | exact Nat.le_refl _ | (simp; done) | (simp; omega)) _))) hb9
  replace HBO := Lib.hid (HBO.out.trans ((hs9).mono HBO.out.size))
  replace HE := Lib.hid (((hs9).block _ (kr_lt HE.out)).trans HE.out)
  obtain ⟨u4, p4, rfl, _⟩ := hx2.pt
  clear hx2
  clear hs9 hb9
  go_wp2_with fail
  refine (HPF.out _ (by repeat (first | exact HBO.out | (refine Below.drew ?_) | (refine below_drewN' ?_ _) | (refine below_alloc' ?_ _) | (refine Below.setCell ?_ (by first | exact Nat.le_refl _ | (have := HBO.out.size; simp; omega) | (have := HBO.out.size; omega)) _)))).mono ?_
  rintro e ww8 ⟨u5, rfl, hp5, hb9⟩
  have hs9 : Below ww7.heap.size ww7 ww8 := below_trans (by repeat (first | exact Below.refl _ _ | (refine Below.drew ?_) | (refine below_drewN' ?_ _) | (refine below_alloc' ?_ _) | (refine Below.setCell ?_ (by first | exact Nat.le_refl _ | (simp; done) | (simp; omega)) _))) hb9
  replace HBO := Lib.hid (HBO.out.trans ((hs9).mono HBO.out.size))
  replace HE := Lib.hid (((hs9).block _ (kr_lt HE.out)).trans HE.out)
  obtain ⟨A5, c5, rfl, _⟩ := RdU.point hp5.rd
  have HP5 := Lib.hid hp5.rd
  clear hp5
  clear hs9 hb9
  go_wp2_with fail
  refine (HRS.out _ (by repeat (first | exact HBO.out | (refine Below.drew ?_) | (refine below_drewN' ?_ _) | (refine below_alloc' ?_ _) | (refine Below.setCell ?_ (by first | exact Nat.le_refl _ | (have := HBO.out.size; simp; omega) | (have := HBO.out.size; omega)) _)))).mono ?_
  rintro e ww9 ⟨x2, rfl, hx2, hb9⟩
  have hs9 : Below ww8.heap.size ww8 ww9 := below_trans (by repeat (first | exact Below.refl _ _ | (refine Below.drew ?_) | (refine below_drewN' ?_ _) | (refine below_alloc' ?_ _) | (refine Below.setCell ?_ (by first | exact Nat.le_refl _ | (simp; done) | (simp; omega)) _))) hb9
  replace HBO := Lib.hid (HBO.out.trans ((hs9).mono HBO.out.size))
  replace HE := Lib.hid (((hs9).block _ (kr_lt HE.out)).trans HE.out)
  replace HP5 := Lib.hid (HP5.out.below (hs9))
  have HX2 := Lib.hid (hx2.rd hb9)
  obtain ⟨u6, p6, rfl, hpt6⟩ := hx2.pt
  have HP6 := Lib.hid (hpt6.1.elim (·.below hb9) (·.rd))
  clear hx2 hpt6 HX2
  obtain ⟨A6, c6, rfl, _⟩ := RdU.point HP6.out
  clear hs9 hb9
  go_wp2_with fail
  refine (HSA.out _ _ _ (HP5.out.below (by repeat (first | exact Below.refl _ _ | (refine Below.drew ?_) | (refine below_drewN' ?_ _) | (refine below_alloc' ?_ _) | (refine Below.setCell ?_ (by first | exact Nat.le_refl _ | (simp; done) | (simp; omega)) _)))) (HP6.out.below (by repeat (first | exact Below.refl _ _ | (refine Below.drew ?_) | (refine below_drewN' ?_ _) | (refine below_alloc' ?_ _) | (refine Below.setCell ?_ (by first | exact Nat.le_refl _ | (simp; done) | (simp; omega)) _))))).mono ?_
  rintro e ww10 ⟨rfl, hb9⟩
  have hs9 : Below ww9.heap.size ww9 ww10 := below_trans (by repeat (first | exact Below.refl _ _ | (refine Below.drew ?_) | (refine below_drewN' ?_ _) | (refine below_alloc' ?_ _) | (refine Below.setCell ?_ (by first | exact Nat.le_refl _ | (simp; done) | (simp; omega)) _))) hb9
  replace HBO := Lib.hid (HBO.out.trans ((hs9).mono HBO.out.size))
  replace HE := Lib.hid (((hs9).block _ (kr_lt HE.out)).trans HE.out)
  replace HP5 := Lib.hid (HP5.out.below (hs9))
  replace HP6 := Lib.hid (HP6.out.below (hs9))
  clear HP5 HP6
  clear hs9 hb9
  clear HE
  go_wp2_with fail
  refine (HKS.out _ (by repeat (first | exact HBO.out | (refine Below.drew ?_) | (refine below_drewN' ?_ _) | (refine below_alloc' ?_ _) | (refine Below.setCell ?_ (by first | exact Nat.le_refl _ | (have := HBO.out.size; simp; omega) | (have := HBO.out.size; omega)) _)))).mono ?_
  rintro e wk ⟨kv, rfl, ⟨kvs, hkv, hvl, hvs⟩, hb5⟩
  rw [List.length_map] at hvl
  have HBK := Lib.hid (below_trans (by repeat (first | exact HBO.out | (refine Below.drew ?_) | (refine below_drewN' ?_ _) | (refine below_alloc' ?_ _) | (refine Below.setCell ?_ (by first | exact Nat.le_refl _ | (have := HBO.out.size; simp; omega) | (have := HBO.out.size; omega)) _))) hb5)
  have hks0 : kvs ≠ [] := by intro h; rw [h] at hvl; have := HK2.out; rw [← hvl] at this; simp at this
  obtain ⟨gk, ck, rfl, hgk, hcv⟩ := hkv.cells hks0
  have HVS := Lib.hid (And.intro hvl (And.intro hvs hcv))
  clear hkv hgk hcv hb5 hvs hks0
  rw [hvl]
  obtain ⟨nk, hnk⟩ : ∃ nk, ks.length = nk := ⟨_, rfl⟩
  rw [hnk]
  have HNK := Lib.hid hnk
  clear hvl hnk
  go_wp2_with fail
  go_loopw [9] (fun iv wr => ∃ j : Nat, j ≤ nk ∧ iv = .int .i64 (j : Nat) ∧ Below wk.heap.size wk wr) (fun iv _ => nk - (intOf iv).toNat)
  case atStart => exact ⟨0, Nat.zero_le _, rfl, Below.refl _ _⟩
  case round =>
    obtain ⟨j, hj, rfl, hb⟩ := hrel
    have HBR := Lib.hid (HBK.out.trans (hb.mono HBK.out.size))
    by_cases hlt : j < nk
    · have h5 : (0 : Int) ≤ (j : Int) := by omega
      have h6 : (j : Int) < (nk : Int) := by omega
      have hjk : j < ks.length := by rw [HNK.out]; exact hlt
      have HW := Lib.hid (show wrap64 ((j : Int) + 1) = ((j + 1 : Nat) : Int) by have := HLN.out; unfold wrap64; omega)
      have hjv : j < kvs.length := by rw [HVS.out.1]; exact hjk
      have kj := Below.keeps hb _ _ (HVS.out.2.2 j hjv)
      have hrd := (HVS.out.2.1 j hjv (by rw [List.length_map]; exact hjk)).below HBR.out
      rw [List.getElem_map] at hrd
      have HIS := Lib.hid (fun w' (hb : Below wr.heap.size wr w') => HIH.out j hjk w' _ (HBR.out.trans (hb.mono HBR.out.size)) (hrd.below hb))
      have HKD := Lib.hid (HKID.out j hjk)
      obtain ⟨hj0, hkk⟩ := HKL.out j hjk
      have HADJ := Lib.hid (HADR.out j hjk hj0)
      obtain ⟨Aj, cj, ej, z9, hxj⟩ := hrd
      obtain ⟨bj, oj, rfl, hcj⟩ := hxj hj0
      obtain ⟨up, g0, hup, z8⟩ := hcj 0 hj0
      have HAD := Lib.hid (fun w' (hb : Below wr.heap.size wr w') => HADJ.out w' up (hup.below hb))
      obtain ⟨Ap, cp, rfl, z7⟩ := RdU.point hup
      rw [hkk hj0] at g0 HAD
      simp only [Nat.zero_mul, Nat.add_zero] at g0
      rw [ej] at kj HIS
      have h7 : (0 : Int) < (ks[j].2.2.length : Int) := by omega
      have h8 : 0 < ks[j].2.2.length := hj0
      clear ej hup hcj hxj HADJ hkk z9 z8 z7 hj0
      generalize ks[j].2.2.length = nj at *
      obtain ⟨y1, hy1⟩ : ∃ y1, ks[j].1 = y1 := ⟨_, rfl⟩
      obtain ⟨y2, hy2⟩ : ∃ y2, ks[j].2.1 = y2 := ⟨_, rfl⟩
      rw [hy1] at HAD HKD
      rw [hy2] at HKD HIS
      simp only [pv_some] at HKD
      have hgl := World.block_lt_of_cell? wr _ kj
      have hjl := World.block_lt_of_cell? wr _ g0
      have HBJ := Lib.hid hb
      clear hb hy1 hy2
      go_wp2_with fail
      refine wp_region_vals 17 [fun z9 _ => z9 = .pointer (some ⟨b, 0, none⟩),
        fun z9 _ => z9 = .slice (some ⟨gk, 0, none⟩) nk ck,
        fun z9 _ => z9 = .int .i64 (j : Nat),
        fun z9 _ => z9 = .pointer (some ⟨gk, j, none⟩),
        fun z9 _ => z9 = .slice (some ⟨bj, oj, none⟩) nj cj,
        fun z9 _ => z9 = .pointer (some ⟨bj, oj, none⟩),
        fun z9 _ => z9 = .pointer (some ⟨bj, oj, none⟩),
        fun z9 _ => z9 = .slice Ap k cp,
        fun z9 _ => z9 = .pointer (some ⟨b, 0, none⟩),
        fun z9 _ => z9 = .int .i64 SL.lv,
        fun z9 _ => z9 = .int .i64 (y1 : Nat),
        fun z9 _ => z9 = .pointer (some ⟨y2, 0, none⟩),
        fun z9 _ => z9 = .slice (some ⟨gk, 0, none⟩) nk ck,
        fun z9 _ => z9 = .int .i64 (j : Nat),
        fun z9 _ => z9 = .pointer (some ⟨gk, j, none⟩),
        fun z9 _ => z9 = .slice (some ⟨bj, oj, none⟩) nj cj,
        fun z9 _ => z9 = .bool true]
        (by kernel_rfl) (by kernel_rfl) (by kernel_rfl) (by kernel_rfl) ?_ ?_ ?_
      · intro V hV v w1 w2 h hb
        simp only [List.mem_cons, List.not_mem_nil, or_false] at hV
        rcases hV with rfl | rfl | rfl | rfl | rfl | rfl | rfl | rfl | rfl | rfl | rfl | rfl | rfl | rfl | rfl | rfl | rfl
        all_goals first | exact h | (exact h)
      · intro iq oq hiq hoq
        match iq, hiq with
        | 0, _ =>
        obtain rfl := Option.some.inj hoq
        intro a1 w1 K hk hK
        have e0 : a1.tmps.getD 0 undef = .pointer (some ⟨b, 0, none⟩) := hk.same 0 (by simp)
        simp [Region.wanted, Oper.wp, Act.eval, go_sem, e0, kj, g0, h5, h6, h7, h8, hgl, hjl]
        exact hK _ _ (Below.refl _ _) rfl
        | 1, _ =>
        obtain rfl := Option.some.inj hoq
        intro a1 w1 K hk hK
        have e8 : a1.tmps.getD 8 undef = .slice (some ⟨gk, 0, none⟩) nk ck := hk.same 8 (by simp)
        simp [Region.wanted, Oper.wp, Act.eval, go_sem, e8, kj, g0, h5, h6, h7, h8, hgl, hjl]
        exact hK _ _ (Below.refl _ _) rfl
        | 2, _ =>
        obtain rfl := Option.some.inj hoq
        intro a1 w1 K hk hK
        have e9 : a1.tmps.getD 9 undef = .int .i64 (j : Nat) := hk.same 9 (by simp)
        simp [Region.wanted, Oper.wp, Act.eval, go_sem, e9, kj, g0, h5, h6, h7, h8, hgl, hjl]
        exact hK _ _ (Below.refl _ _) rfl
        | 3, _ =>
        obtain rfl := Option.some.inj hoq
        intro a1 w1 K hk hK
        have d93 : a1.tmps.getD 93 undef = .slice (some ⟨gk, 0, none⟩) nk ck := hk.deps ⟨1, .data⟩ (by simp) rfl _ _ rfl rfl
        have d94 : a1.tmps.getD 94 undef = .int .i64 (j : Nat) := hk.deps ⟨2, .data⟩ (by simp) rfl _ _ rfl rfl
        simp [Region.wanted, Oper.wp, Act.eval, go_sem, d93, d94, kj, g0, h5, h6, h7, h8, hgl, hjl]
        exact hK _ _ (Below.refl _ _) rfl
        | 4, _ =>
        obtain rfl := Option.some.inj hoq
        intro a1 w1 K hk hK
        have d95 : a1.tmps.getD 95 undef = .pointer (some ⟨gk, j, none⟩) := hk.deps ⟨3, .data⟩ (by simp) rfl _ _ rfl rfl
        have c0 : w1.cell? ⟨gk, j, none⟩ = some (.slice (some ⟨bj, oj, none⟩) nj cj) := Below.keeps hk.ext _ _ (by simp [go_sem, kj, g0, h5, h6, h7, h8, hgl, hjl])
        have c1 : w1.cell? ⟨bj, oj, none⟩ = some (.slice Ap k cp) := Below.keeps hk.ext _ _ (by simp [go_sem, kj, g0, h5, h6, h7, h8, hgl, hjl])
        simp [Region.wanted, Oper.wp, Act.eval, go_sem, d95, c0, c1, kj, g0, h5, h6, h7, h8, hgl, hjl]
        exact hK _ _ (Below.refl _ _) rfl
        | 5, _ =>
        obtain rfl := Option.some.inj hoq
        intro a1 w1 K hk hK
        have d96 : a1.tmps.getD 96 undef = .slice (some ⟨bj, oj, none⟩) nj cj := hk.deps ⟨4, .data⟩ (by simp) rfl _ _ rfl rfl
        simp [Region.wanted, Oper.wp, Act.eval, go_sem, d96, kj, g0, h5, h6, h7, h8, hgl, hjl]
        exact hK _ _ (Below.refl _ _) rfl
        | 6, _ =>
        obtain rfl := Option.some.inj hoq
        intro a1 w1 K hk hK
        have d97 : a1.tmps.getD 97 undef = .pointer (some ⟨bj, oj, none⟩) := hk.deps ⟨5, .data⟩ (by simp) rfl _ _ rfl rfl
        simp [Region.wanted, Oper.wp, Act.eval, go_sem, d97, kj, g0, h5, h6, h7, h8, hgl, hjl]
        exact hK _ _ (Below.refl _ _) rfl
        | 7, _ =>
        obtain rfl := Option.some.inj hoq
        intro a1 w1 K hk hK
        have d98 : a1.tmps.getD 98 undef = .pointer (some ⟨bj, oj, none⟩) := hk.deps ⟨6, .data⟩ (by simp) rfl _ _ rfl rfl
        have c0 : w1.cell? ⟨gk, j, none⟩ = some (.slice (some ⟨bj, oj, none⟩) nj cj) := Below.keeps hk.ext _ _ (by simp [go_sem, kj, g0, h5, h6, h7, h8, hgl, hjl])
        have c1 : w1.cell? ⟨bj, oj, none⟩ = some (.slice Ap k cp) := Below.keeps hk.ext _ _ (by simp [go_sem, kj, g0, h5, h6, h7, h8, hgl, hjl])
        simp [Region.wanted, Oper.wp, Act.eval, go_sem, d98, c0, c1, kj, g0, h5, h6, h7, h8, hgl, hjl]
        exact hK _ _ (Below.refl _ _) rfl
        | 8, _ =>
        obtain rfl := Option.some.inj hoq
        intro a1 w1 K hk hK
        have e0 : a1.tmps.getD 0 undef = .pointer (some ⟨b, 0, none⟩) := hk.same 0 (by simp)
        simp [Region.wanted, Oper.wp, Act.eval, go_sem, e0, kj, g0, h5, h6, h7, h8, hgl, hjl]
        exact hK _ _ (Below.refl _ _) rfl
        | 9, _ =>
        obtain rfl := Option.some.inj hoq
        intro a1 w1 K hk hK
        have d100 : a1.tmps.getD 100 undef = .pointer (some ⟨b, 0, none⟩) := hk.deps ⟨8, .data⟩ (by simp) rfl _ _ rfl rfl
        simp [Region.wanted, Oper.wp, Act.eval, go_sem, d100, kj, g0, h5, h6, h7, h8, hgl, hjl]
        refine (HLV.out _ (below_trans (by repeat (first | exact HBR.out | (refine Below.drew ?_) | (refine below_drewN' ?_ _) | (refine below_alloc' ?_ _) | (refine Below.setCell ?_ (by first | exact Nat.le_refl _ | (have := HBR.out.size; simp; omega) | (have := HBR.out.size; omega)) _))) hk.ext)).mono ?_
        rintro e w9 ⟨rfl, hw9⟩
        obtain rfl := hw9.symm
        exact hK _ _ (Below.refl _ _) rfl
        | 10, _ =>
        obtain rfl := Option.some.inj hoq
        intro a1 w1 K hk hK
        have d99 : a1.tmps.getD 99 undef = .slice Ap k cp := hk.deps ⟨7, .data⟩ (by simp) rfl _ _ rfl rfl
        have d101 : a1.tmps.getD 101 undef = .int .i64 SL.lv := hk.deps ⟨9, .data⟩ (by simp) rfl _ _ rfl rfl
        simp [Region.wanted, Oper.wp, Act.eval, go_sem, d99, d101, kj, g0, h5, h6, h7, h8, hgl, hjl]
        refine (HAD.out _ (below_trans (by repeat (first | exact Below.refl _ _ | (refine Below.drew ?_) | (refine below_drewN' ?_ _) | (refine below_alloc' ?_ _) | (refine Below.setCell ?_ (by first | exact Nat.le_refl _ | (simp; done) | (simp; omega)) _))) hk.ext)).mono ?_
        rintro e w9 ⟨rfl, hb9⟩
        exact hK _ _ hb9 rfl
        | 11, _ =>
        obtain rfl := Option.some.inj hoq
        intro a1 w1 K hk hK
        have d92 : a1.tmps.getD 92 undef = .pointer (some ⟨b, 0, none⟩) := hk.deps ⟨0, .data⟩ (by simp) rfl _ _ rfl rfl
        have d102 : a1.tmps.getD 102 undef = .int .i64 (y1 : Nat) := hk.deps ⟨10, .data⟩ (by simp) rfl _ _ rfl rfl
        simp [Region.wanted, Oper.wp, Act.eval, go_sem, d92, d102, kj, g0, h5, h6, h7, h8, hgl, hjl]
        refine (HKD.out _ (below_trans (by repeat (first | exact HBR.out | (refine Below.drew ?_) | (refine below_drewN' ?_ _) | (refine below_alloc' ?_ _) | (refine Below.setCell ?_ (by first | exact Nat.le_refl _ | (have := HBR.out.size; simp; omega) | (have := HBR.out.size; omega)) _))) hk.ext)).mono ?_
        rintro e w9 ⟨rfl, hb9⟩
        exact hK _ _ hb9 rfl
        | 12, _ =>
        obtain rfl := Option.some.inj hoq
        intro a1 w1 K hk hK
        have e8 : a1.tmps.getD 8 undef = .slice (some ⟨gk, 0, none⟩) nk ck := hk.same 8 (by simp)
        simp [Region.wanted, Oper.wp, Act.eval, go_sem, e8, kj, g0, h5, h6, h7, h8, hgl, hjl]
        exact hK _ _ (Below.refl _ _) rfl
        | 13, _ =>
        obtain rfl := Option.some.inj hoq
        intro a1 w1 K hk hK
        have e9 : a1.tmps.getD 9 undef = .int .i64 (j : Nat) := hk.same 9 (by simp)
        simp [Region.wanted, Oper.wp, Act.eval, go_sem, e9, kj, g0, h5, h6, h7, h8, hgl, hjl]
        exact hK _ _ (Below.refl _ _) rfl
        | 14, _ =>
        obtain rfl := Option.some.inj hoq
        intro a1 w1 K hk hK
        have d104 : a1.tmps.getD 104 undef = .slice (some ⟨gk, 0, none⟩) nk ck := hk.deps ⟨12, .data⟩ (by simp) rfl _ _ rfl rfl
        have d105 : a1.tmps.getD 105 undef = .int .i64 (j : Nat) := hk.deps ⟨13, .data⟩ (by simp) rfl _ _ rfl rfl
        simp [Region.wanted, Oper.wp, Act.eval, go_sem, d104, d105, kj, g0, h5, h6, h7, h8, hgl, hjl]
        exact hK _ _ (Below.refl _ _) rfl
        | 15, _ =>
        obtain rfl := Option.some.inj hoq
        intro a1 w1 K hk hK
        have d106 : a1.tmps.getD 106 undef = .pointer (some ⟨gk, j, none⟩) := hk.deps ⟨14, .data⟩ (by simp) rfl _ _ rfl rfl
        have c0 : w1.cell? ⟨gk, j, none⟩ = some (.slice (some ⟨bj, oj, none⟩) nj cj) := Below.keeps hk.ext _ _ (by simp [go_sem, kj, g0, h5, h6, h7, h8, hgl, hjl])
        have c1 : w1.cell? ⟨bj, oj, none⟩ = some (.slice Ap k cp) := Below.keeps hk.ext _ _ (by simp [go_sem, kj, g0, h5, h6, h7, h8, hgl, hjl])
        simp [Region.wanted, Oper.wp, Act.eval, go_sem, d106, c0, c1, kj, g0, h5, h6, h7, h8, hgl, hjl]
        exact hK _ _ (Below.refl _ _) rfl
        | 16, _ =>
        obtain rfl := Option.some.inj hoq
        intro a1 w1 K hk hK
        have d103 : a1.tmps.getD 103 undef = .pointer (some ⟨y2, 0, none⟩) := hk.deps ⟨11, .data⟩ (by simp) rfl _ _ rfl rfl
        have d107 : a1.tmps.getD 107 undef = .slice (some ⟨bj, oj, none⟩) nj cj := hk.deps ⟨15, .data⟩ (by simp) rfl _ _ rfl rfl
        simp [Region.wanted, Oper.wp, Act.eval, go_sem, d103, d107, kj, g0, h5, h6, h7, h8, hgl, hjl]
        refine (HIS.out _ (below_trans (by repeat (first | exact Below.refl _ _ | (refine Below.drew ?_) | (refine below_drewN' ?_ _) | (refine below_alloc' ?_ _) | (refine Below.setCell ?_ (by first | exact Nat.le_refl _ | (simp; done) | (simp; omega)) _))) hk.ext)).mono ?_
        rintro e w9 ⟨rfl, hb9⟩
        exact hK _ _ hb9 rfl
        | k + 17, hk => exact absurd hk (by omega)
      · intro vs w3 hl hb3 hv
        match vs, hl with
        | [v0, v1, v2, v3, v4, v5, v6, v7, v8, v9, v10, v11, v12, v13, v14, v15, v16], _ =>
        obtain rfl : v0 = .pointer (some ⟨b, 0, none⟩) := hv 0 (by omega)
        obtain rfl : v1 = .slice (some ⟨gk, 0, none⟩) nk ck := hv 1 (by omega)
        obtain rfl : v2 = .int .i64 (j : Nat) := hv 2 (by omega)
        obtain rfl : v3 = .pointer (some ⟨gk, j, none⟩) := hv 3 (by omega)
        obtain rfl : v4 = .slice (some ⟨bj, oj, none⟩) nj cj := hv 4 (by omega)
        obtain rfl : v5 = .pointer (some ⟨bj, oj, none⟩) := hv 5 (by omega)
        obtain rfl : v6 = .pointer (some ⟨bj, oj, none⟩) := hv 6 (by omega)
        obtain rfl : v7 = .slice Ap k cp := hv 7 (by omega)
        obtain rfl : v8 = .pointer (some ⟨b, 0, none⟩) := hv 8 (by omega)
        obtain rfl : v9 = .int .i64 SL.lv := hv 9 (by omega)
        obtain rfl : v10 = .int .i64 (y1 : Nat) := hv 10 (by omega)
        obtain rfl : v11 = .pointer (some ⟨y2, 0, none⟩) := hv 11 (by omega)
        obtain rfl : v12 = .slice (some ⟨gk, 0, none⟩) nk ck := hv 12 (by omega)
        obtain rfl : v13 = .int .i64 (j : Nat) := hv 13 (by omega)
        obtain rfl : v14 = .pointer (some ⟨gk, j, none⟩) := hv 14 (by omega)
        obtain rfl : v15 = .slice (some ⟨bj, oj, none⟩) nj cj := hv 15 (by omega)
        obtain rfl : v16 = .bool true := hv 16 (by omega)
        clear hv
        simp only [putAll, List.take_succ_cons, List.take_zero, List.drop_succ_cons, List.drop_zero, Act.put, List.setIfInBounds_toArray, List.set_cons_succ, List.set_cons_zero]
        have HF := Lib.hid (show Below wr.heap.size wr w3 from below_trans (by repeat (first | exact Below.refl _ _ | (refine Below.drew ?_) | (refine below_drewN' ?_ _) | (refine below_alloc' ?_ _) | (refine Below.setCell ?_ (by first | exact Nat.le_refl _ | (simp; done) | (simp; omega)) _))) hb3)
        clear kj g0 hb3
        go_wp2_with fail
        go_roundw
        case rel => exact ⟨j + 1, by omega, (by first | rw [HW.out] | rfl | simp), HBJ.out.trans (HF.out.mono HBJ.out.size)⟩
        case measure => (first | (rw [intOf_of' HW.out, intOf_of' rfl]; omega) | (simp [intOf]; omega) | (simp [intOf] <;> omega))
    · have h6 : ¬ (j : Int) < (nk : Int) := by omega
      clear hb
      go_wp2_with fail
      go_ret
      exact ⟨rfl, (by repeat (first | exact HBR.out | (refine Below.drew ?_) | (refine below_drewN' ?_ _) | (refine below_alloc' ?_ _) | (refine Below.setCell ?_ (by first | exact Nat.le_refl _ | (have := HBR.out.size; simp; omega) | (have := HBR.out.size; omega)) _)))⟩
end Go.Proofs.YtdkomhmciihkiaaGreat
/-! IsT -/
namespace Go.Proofs.YtdkomhmciihkiaaGreat
open Go.RowKit
set_option linter.unusedVariables false
set_option linter.unusedSimpArgs false
set_option maxRecDepth 100000

theorem is06_any {w : World} {k b : Nat} {l : List En} (hnd : Nd w k b l) (k1 : 1 ≤ k) (k16 : k ≤ 16) : ∀ (w1 : World) (v : Value), Below w.heap.size w w1 → RdE w1 v l → EtS k l →
    Calls Tryz.prog 79 #[.pointer (some ⟨b, 0, none⟩), v] w1 fun e w' => e = .returned (.bool true) ∧ Below w1.heap.size w1 w' := by
  induction hnd with
  | leaf b p x h hp ho hv => intro w1 v hb hr he; exact is06_one w1 k b _ v ((Nd.leaf b p x h hp ho hv).bel hb) rfl hr he k1 k16
  | node b s n pre ks h hs hkd hn ih =>
    intro w1 v hb hr he
    exact is06_node w1 k b s n pre ks _ v rfl ((Nd.node b s n pre ks h hs hkd hn).bel hb) (Below.keeps hb _ _ h.c3) (hs.below hb) hkd (fun x hx w2 v2 hb2 h1 h2 => ih x hx w2 v2 (hb.trans (hb2.mono hb.size)) h1 h2) hr he k1 k16
theorem RdS.mono {Pt Qt : PtS'} {w : World} {v : Value} {l : List Sh} (h : RdS Pt w v l) (hk : ∀ u p s, Pt u p s → Qt u p s) : RdS Qt w v l := by
  obtain ⟨A, c, e, h⟩ := h
  exact ⟨A, c, e, fun hp => let ⟨b, h1, h2⟩ := h hp; ⟨b, h1, fun j hj => let ⟨u, pl, a0, a1, a2, a3, a4, a5⟩ := h2 j hj; ⟨u, pl, a0, a1, a2, a3, a4, hk _ _ _ a5⟩⟩⟩
theorem RdS.below {Pt : PtS'} {w w' : World} {v : Value} {l : List Sh} (h : RdS Pt w v l) (hb : Below w.heap.size w w') : RdS Pt w' v l := by
  obtain ⟨A, c, e, h⟩ := h
  have hk := Below.keeps hb
  exact ⟨A, c, e, fun hp => let ⟨b, h1, h2⟩ := h hp; ⟨b, h1, fun j hj => let ⟨u, pl, a0, a1, a2, a3, a4, a5⟩ := h2 j hj; ⟨u, pl, hk _ _ a0, hk _ _ a1, hk _ _ a2, hk _ _ a3, hk _ _ a4, a5⟩⟩⟩
theorem Tn.sh_small {k : Nat} {l : List En} (h : Tn k l) (hk : k ≤ 40) (hl : l.length ≤ 1000) : ∀ s ∈ shapesL l, s.pre.length ≤ 100 ∧ s.pl.length ≤ 100000 := by
  induction h with
  | one e h =>
    intro s hs
    rw [shapes_one] at hs
    obtain rfl : s = shL [e] := by simpa using hs
    exact ⟨by show e.p.length ≤ 100; omega, by simp [shL]⟩
  | node n pre ks hkd hn ih =>
    intro s hs
    rw [Tn.shapes hkd hn] at hs
    rcases List.mem_cons.1 hs with rfl | hs
    · rw [hkd.sh]
      exact ⟨by have := hkd.preLen.1; show pre.length ≤ 100; omega, by simp only [List.length_map]; have := (cat_length ks hkd.ne).1; omega⟩
    · obtain ⟨x, hx, hs⟩ := List.mem_flatMap.1 hs
      exact ih x hx (by have := hkd.kid_lt hx; omega) s hs
theorem sums_n (l : List En) (h : l.length < 2 ^ 64) : (sumsL l).n = l.length := by
  induction l with
  | nil => rfl
  | cons e l ih =>
    cases l with
    | nil => rfl
    | cons f l =>
      rw [sumsL_cons e (f :: l) (by simp)]
      have h1 := ih (by simp at h ⊢; omega)
      show (1 + (sumsL (f :: l)).n) % 2 ^ 64 = _
      rw [h1]
      simp only [List.length_cons] at h ⊢
      omega
theorem tlen_any (w : World) (t k : Nat) (l : List En) (ht : TrR w t k l) (hs : l.length ≤ 1000) : Calls Tryz.prog 75 #[.pointer (some ⟨t, 0, none⟩)] w fun e w' => e = .returned (.int .i64 (l.length : Nat)) ∧ Below w.heap.size w w' := by
  obtain ⟨r, c1, hr⟩ := ht.c1
  obtain ⟨q, hq⟩ := pv_ex r
  have HSU : Hid (Calls Tryz.prog 134 #[pv r] w fun e w' => e = .returned (smV (sumsL l)) ∧ Below w.heap.size w w') := by
    cases r with
    | none => obtain rfl : l = [] := hr; exact Lib.hid (nsums_nil w)
    | some b => obtain ⟨v, kp, hh⟩ := Nd.hd hr; exact Lib.hid (nsums_any w b _ _ _ _ _ hh)
  have hn := sums_n l (by omega)
  have hw : wrap64 (l.length : Int) = (l.length : Int) := by unfold wrap64; omega
  generalize sumsL l = S at *
  have hfd : ∀ w : World, (Instr.field 217 (.agg #[.int .u64 (S.n : Nat), .int .u64 (S.s : Nat), .int .u64 (S.mn : Nat), .int .u64 (S.mx : Nat)]) 0).run Tryz.prog w = .ok (.int .u64 (S.n : Nat)) w := fun _ => by kernel_rfl
  rw [hq] at c1 HSU
  have HN := Lib.hid hn
  clear ht hr hq hs hn
  go_enter Tryz.func75, Tryz.ntmps75
  go_wp2_with fail
  refine (troot_any w t q c1).mono ?_
  rintro e w1 ⟨rfl, hw1⟩
  obtain rfl := hw1.symm
  clear hw1
  go_wp2_with fail
  refine HSU.out.mono ?_
  rintro e w2 ⟨rfl, hb⟩
  have HB := Lib.hid hb
  clear hb
  unfold smV
  go_wp2_with fail
  go_ret
  exact ⟨by simp [HN.out, hw], HB.out⟩
set_option maxHeartbeats 4000000 in
theorem is07_any (w : World) (t k : Nat) (l : List En) (v : Value) (ht : TrR w t k l) (hv : RdE w v l) (he : EtS k l) :
    Calls Tryz.prog 25 #[.pointer (some ⟨t, 0, none⟩), .int .i64 (k : Nat), v] w fun e w' => e = .returned (.bool true) ∧ Below w.heap.size w w' := by
  obtain ⟨r, c1, hr⟩ := ht.c1
  obtain ⟨q, hq⟩ := pv_ex r
  have HK := Lib.hid (fun w' (hb : Below w.heap.size w w') => tk_any w' t k (Below.keeps hb _ _ ht.c0))
  have HLN := Lib.hid (fun w' (hb : Below w.heap.size w w') => tlen_any w' t k l (ht.bel hb) he.short)
  have HSH := Lib.hid (fun w' (hb : Below w.heap.size w w') => tshapes_any w' t k l (ht.bel hb) he.short)
  have HRT := Lib.hid (fun w' (hb : Below w.heap.size w w') => troot_any w' t q (Below.keeps hb _ _ (hq ▸ c1)))
  have HRS : Hid (∀ w', Below w.heap.size w w' → Calls Tryz.prog 78 #[v] w' fun e' w'' => ShsP w' w' (shapesL l) e' w'') := by
    cases r with
    | none => obtain rfl : l = [] := hr; exact Lib.hid fun w' hb => rShapes_nil w' w' v (hv.below hb)
    | some b => exact Lib.hid fun w' hb => rShapes_tn (Nd.tn hr) w' w' v (hv.below hb) (Below.refl _ _) he
  have hsm : (shapesL l).length ≤ 100000 ∧ ∀ s ∈ shapesL l, s.pre.length ≤ 100 ∧ s.pl.length ≤ 100000 := by
    cases r with
    | none => obtain rfl : l = [] := hr; exact ⟨by decide, fun s hs => by simp [shapesL, shapesF] at hs⟩
    | some b => exact ⟨by have := (Nd.tn hr).len; have := he.short; omega, (Nd.tn hr).sh_small he.k40 he.short⟩
  have HSS := Lib.hid (fun w' x y (hx : RdS (PtR w') w' x (shapesL l)) (hy : RdS (PtR w') w' y (shapesL l)) => rSameShapes w' x y (shapesL l) hx hy hsm.1 hsm.2)
  have HIS : Hid (l ≠ [] → ∀ w', Below w.heap.size w w' → Calls Tryz.prog 79 #[.pointer q, v] w' fun e w'' => e = .returned (.bool true) ∧ Below w'.heap.size w' w'') := by
    refine Lib.hid fun hne w' hb => ?_
    cases r with
    | none => exact absurd hr hne
    | some b =>
      rw [← hq]
      exact is06_any (hnd := hr) ht.k1 ht.k16 w' v hb (hv.below hb) he
  have hnil : l = [] → q = none := fun h => by
    cases r with
    | none => injection hq with hq; exact hq.symm
    | some b => exact absurd h (Nd.ne hr)
  have ne0 : ((k : Int) != (k : Int)) = false := by simp
  have ne1 : ((l.length : Int) != (l.length : Int)) = false := by simp
  obtain ⟨A, c, rfl, hvz⟩ := hv
  clear ht hr hq he c1 hsm hvz

  have HBO := Lib.hid (Below.refl w.heap.size w)
  go_enter Tryz.func25, Tryz.ntmps25
  go_wp2_with fail
  refine (HK.out _ (by repeat (first | exact HBO.out | (refine Below.drew ?_) | (refine below_drewN' ?_ _) | (refine below_alloc' ?_ _) | (refine Below.setCell ?_ (by first | exact Nat.le_refl _ | (have := HBO.out.size; simp; omega) | (have := HBO.out.size; omega)) _)))).mono ?_
  rintro e w9 ⟨rfl, hw9⟩
  obtain rfl := hw9.symm
  clear hw9
  go_wp2_with fail
  refine (HLN.out _ (by repeat (first | exact HBO.out | (refine Below.drew ?_) | (refine below_drewN' ?_ _) | (refine below_alloc' ?_ _) | (refine Below.setCell ?_ (by first | exact Nat.le_refl _ | (have := HBO.out.size; simp; omega) | (have := HBO.out.size; omega)) _)))).mono ?_
  rintro e ww1 ⟨rfl, hb9⟩
  have hs9 : Below w.heap.size w ww1 := below_trans (by repeat (first | exact Below.refl _ _ | (refine Below.drew ?_) | (refine below_drewN' ?_ _) | (refine below_alloc' ?_ _) | (refine Below.setCell ?_ (by first | exact Nat.le_refl _ | (simp; done) | (simp; omega)) _))) hb9
  replace HBO := Lib.hid (HBO.out.trans ((hs9).mono HBO.out.size))
  clear hs9 hb9
  go_wp2_with fail
  refine (HSH.out _ (by repeat (first | exact HBO.out | (refine Below.drew ?_) | (refine below_drewN' ?_ _) | (refine below_alloc' ?_ _) | (refine Below.setCell ?_ (by first | exact Nat.le_refl _ | (have := HBO.out.size; simp; omega) | (have := HBO.out.size; omega)) _)))).mono ?_
  rintro e wa ⟨x1, rfl, ho1, hb9⟩
  have hs9 : Below ww1.heap.size ww1 wa := below_trans (by repeat (first | exact Below.refl _ _ | (refine Below.drew ?_) | (refine below_drewN' ?_ _) | (refine below_alloc' ?_ _) | (refine Below.setCell ?_ (by first | exact Nat.le_refl _ | (simp; done) | (simp; omega)) _))) hb9
  have HX1 := Lib.hid ((ho1.mono (PtK.rd hb9)).rd)
  replace HBO := Lib.hid (HBO.out.trans (hs9.mono HBO.out.size))
  clear ho1 hb9 hs9
  go_wp2_with fail
  refine (HRS.out _ (by repeat (first | exact HBO.out | (refine Below.drew ?_) | (refine below_drewN' ?_ _) | (refine below_alloc' ?_ _) | (refine Below.setCell ?_ (by first | exact Nat.le_refl _ | (have := HBO.out.size; simp; omega) | (have := HBO.out.size; omega)) _)))).mono ?_
  rintro e wb ⟨x2, rfl, ho2, hb9⟩
  have hs9 : Below wa.heap.size wa wb := below_trans (by repeat (first | exact Below.refl _ _ | (refine Below.drew ?_) | (refine below_drewN' ?_ _) | (refine below_alloc' ?_ _) | (refine Below.setCell ?_ (by first | exact Nat.le_refl _ | (simp; done) | (simp; omega)) _))) hb9
  have HX2 := Lib.hid ((ho2.mono (PtK.rd hb9)).rd)
  replace HX1 := Lib.hid ((HX1.out.mono (PtR.below hs9)).below hs9)
  replace HBO := Lib.hid (HBO.out.trans (hs9.mono HBO.out.size))
  clear ho2 hb9 hs9
  go_wp2_with fail
  refine (HSS.out _ _ _ HX1.out HX2.out).mono ?_
  rintro e wc ⟨rfl, hb9⟩
  have hs9 : Below wb.heap.size wb wc := below_trans (by repeat (first | exact Below.refl _ _ | (refine Below.drew ?_) | (refine below_drewN' ?_ _) | (refine below_alloc' ?_ _) | (refine Below.setCell ?_ (by first | exact Nat.le_refl _ | (simp; done) | (simp; omega)) _))) hb9
  replace HBO := Lib.hid (HBO.out.trans (hs9.mono HBO.out.size))
  clear hb9 hs9
  by_cases h0 : l = []
  · subst h0
    obtain rfl := hnil rfl
    simp only [List.length_nil] at *
    go_wp2_with fail
    refine (HRT.out _ (by repeat (first | exact HBO.out | (refine Below.drew ?_) | (refine below_drewN' ?_ _) | (refine below_alloc' ?_ _) | (refine Below.setCell ?_ (by first | exact Nat.le_refl _ | (have := HBO.out.size; simp; omega) | (have := HBO.out.size; omega)) _)))).mono ?_
    rintro e w1 ⟨rfl, hw1⟩
    obtain rfl := hw1.symm
    clear hw1
    go_wp2_with fail
    go_ret
    exact ⟨rfl, (by repeat (first | exact HBO.out | (refine Below.drew ?_) | (refine below_drewN' ?_ _) | (refine below_alloc' ?_ _) | (refine Below.setCell ?_ (by first | exact Nat.le_refl _ | (have := HBO.out.size; simp; omega) | (have := HBO.out.size; omega)) _)))⟩
  · have h1 : ((l.length : Int) == 0) = false := by rw [beq_eq_false_iff_ne]; have := List.length_pos_iff.2 h0; omega
    replace HIS := Lib.hid (HIS.out h0)
    have hpos := List.length_pos_iff.2 h0
    clear HRS HLN HSH HSS HX1 HX2 h1 hnil h0
    generalize l.length = n at *
    obtain ⟨m, rfl⟩ : ∃ m, n = m + 1 := ⟨n - 1, by omega⟩
    have h3 : (((m : Int) + 1) == 0) = false := by rw [beq_eq_false_iff_ne]; omega
    have h4 : ¬ ((m : Int) + 1 = 0) := by omega
    clear hpos
    go_wp2_with fail
    refine (HRT.out _ (by repeat (first | exact HBO.out | (refine Below.drew ?_) | (refine below_drewN' ?_ _) | (refine below_alloc' ?_ _) | (refine Below.setCell ?_ (by first | exact Nat.le_refl _ | (have := HBO.out.size; simp; omega) | (have := HBO.out.size; omega)) _)))).mono ?_
    rintro e w1 ⟨rfl, hw1⟩
    obtain rfl := hw1.symm
    clear hw1
    go_wp2_with fail
    refine (HIS.out _ (by repeat (first | exact HBO.out | (refine Below.drew ?_) | (refine below_drewN' ?_ _) | (refine below_alloc' ?_ _) | (refine Below.setCell ?_ (by first | exact Nat.le_refl _ | (have := HBO.out.size; simp; omega) | (have := HBO.out.size; omega)) _)))).mono ?_
    rintro e w1 ⟨rfl, hb9⟩
    have HF := Lib.hid (below_trans (by repeat (first | exact HBO.out | (refine Below.drew ?_) | (refine below_drewN' ?_ _) | (refine below_alloc' ?_ _) | (refine Below.setCell ?_ (by first | exact Nat.le_refl _ | (have := HBO.out.size; simp; omega) | (have := HBO.out.size; omega)) _))) hb9)
    clear hb9
    go_wp2_with fail
    go_ret
    exact ⟨rfl, HF.out⟩
end Go.Proofs.YtdkomhmciihkiaaGreat
/-! PkV -/
namespace Go.Proofs.YtdkomhmciihkiaaGreat
open Go.RowKit
set_option linter.unusedVariables false
set_option linter.unusedSimpArgs false

set_option maxRecDepth 8000 in
set_option maxHeartbeats 1000000 in
theorem wPoint2_any (W w : World) (G : Nat) (p last bs : List Nat) (vp : Value) (hi : InvW W G bs last w) (hp : PtAny W w vp p) (hl : p.length = last.length) (h16 : p.length ≤ 16) (op : ∀ x ∈ p, x < 2 ^ 64) (ol : ∀ x ∈ last, x < 2 ^ 64) (hb0 : bs.length ≤ 50000) :
    Calls Tryz.prog 81 #[.pointer (some ⟨G, 0, none⟩), vp] w fun e w' => e = .returned (.tuple #[]) ∧ InvW W G (bs ++ Pk.lebP p last) p w' ∧ KeepW G w w' := by
  obtain ⟨A, cp, rfl, ga0⟩ := RdU.point (hp.rd hi.bel)
  have HD := Lib.hid (And.intro hl (And.intro h16 (And.intro op (And.intro ol hb0))))
  have HI0 := Lib.hid (And.intro hi hp)
  clear hi hp hl h16 op ol ga0 hb0
  go_enter Tryz.func81, Tryz.ntmps81
  go_wp2_with fail
  go_loopw [8] (fun i wr => ∃ (j : Nat), j ≤ p.length ∧ i = .int .i64 j ∧ InvW W G (bs ++ Pk.lebP (p.take j) (last.take j)) last wr ∧ KeepW G w wr) (fun i _ => p.length - (intOf i).toNat)
  case atStart => exact ⟨0, Nat.zero_le _, rfl, by rw [List.take_zero, List.take_zero, show Pk.lebP [] [] = [] from rfl, List.append_nil]; exact HI0.out.1, KeepW.refl _ _⟩
  case round =>
    obtain ⟨j, hj, rfl, hI, hkw⟩ := hrel
    have HKw := Lib.hid hkw
    clear hkw
    have HI := Lib.hid hI
    have hlG : G < wr.heap.size := hI.lt
    obtain ⟨vb, vl, hblk, hown, hpt, hb, hG⟩ := hI
    obtain ⟨k0, k1, kf⟩ := cells_of_two hblk
    by_cases hlt : j < p.length
    · have hlt2 : j < last.length := by have := HD.out.1; omega
      have h3 : (j : Int) < p.length := by omega
      have h4 : (j : Int) < last.length := by omega
      have h5 : (0 : Int) ≤ (j : Int) := by omega
      have hpw : PtAny W wr (.slice A p.length cp) p := HI0.out.2.keep fun b cur fr hbk => (HKw.out b cur _ fr hbk (by decide) (by
        intro e
        subst e
        obtain ⟨vb0, vl0, hblk0, _⟩ := HI0.out.1
        exact ne_type hblk0 hbk (by decide) rfl)).trans hbk.symm
      obtain ⟨A1, c1, e1, ga1⟩ := RdU.point (hpw.rd hb)
      injection e1 with e1 _ e3
      subst e1 e3
      obtain ⟨bk, ofs, rfl, ga⟩ := ga1 (by omega)
      have m0 := ga j hlt
      obtain ⟨A2, cq, rfl, gb0⟩ := RdU.point (hpt.rd hb)
      obtain ⟨bq, oq, rfl, gb⟩ := gb0 (by omega)
      have m1 := gb j hlt2
      have hxor := natCast_xor_u64 p[j] last[j] (HD.out.2.2.1 _ (List.getElem_mem hlt)) (HD.out.2.2.2.1 _ (List.getElem_mem hlt2))
      have HX := Lib.hid (Nat.xor_lt_two_pow (HD.out.2.2.1 _ (List.getElem_mem hlt)) (HD.out.2.2.2.1 _ (List.getElem_mem hlt2)))
      have HT := Lib.hid (Pk.lebP_take p last j hlt hlt2)
      have HL := Lib.hid (show (bs ++ Pk.lebP (p.take j) (last.take j)).length ≤ 100000 by
        have h1 := Pk.lebP_length (p.take j) (last.take j)
        have h3 : (p.take j).length ≤ p.length := by rw [List.length_take]; omega
        have := HD.out.2.1
        have := HD.out.2.2.2.2
        rw [List.length_append]
        omega)
      have HW := Lib.hid (show wrap64 ((j : Int) + 1) = ((j + 1 : Nat) : Int) by have := HD.out.2.1; unfold wrap64; omega)
      clear ga gb gb0 ga1 hpw hblk hown hpt hb hG
      go_wp2_with fail
      refine (wNumber_any W _ G (p[j] ^^^ last[j]) _ last HI.out HX.out HL.out).mono ?_
      rintro e w4 ⟨rfl, hI4, hk4⟩
      have HK4 := Lib.hid (HKw.out.trans hk4)
      clear hk4
      rw [List.append_assoc, ← HT.out] at hI4
      have HI4 := Lib.hid hI4
      clear hI4 m0 m1 k0 k1 kf
      go_wp2_with fail
      go_roundw
      case rel => exact ⟨j + 1, by omega, by rw [HW.out], HI4.out, HK4.out⟩
      case measure => rw [intOf_of' HW.out, intOf_of' rfl]; omega
    · have HI2 := Lib.hid (show InvW W G (bs ++ Pk.lebP p last) last wr by have := HI.out; rwa [List.take_of_length_le (by omega), List.take_of_length_le (by have := HD.out.1; omega)] at this)
      clear hblk hown hpt hb hG
      go_wp2_with fail
      go_end0
      exact ⟨rfl, HI2.out.last (HI0.out.2.keep fun b cur fr hbk => (HKw.out b cur _ fr hbk (by decide) (by
        intro e
        subst e
        obtain ⟨vb0, vl0, hblk0, _⟩ := HI0.out.1
        exact ne_type hblk0 hbk (by decide) rfl)).trans hbk.symm), HKw.out.trans KeepW.set⟩

theorem InvW.ownD {W w w' : World} {v : Value} {l : List En} {G : Nat} (h : OwnD (PtNew w) W w v l) (hk : KeepW G w w') (hG0 : ∃ cG, w.heap[G]? = some (.cells cG 133 (0, 0))) : OwnD (PtNew w') W w' v l := by
  obtain ⟨cG, hG⟩ := hG0
  have h2 : OwnD (PtNew w') W w v l := h.mono fun u p hu => hu.keepBlock fun b cur fr hb => (hk b cur _ fr hb (by decide) (fun e => by subst e; exact ne_type hG hb (by decide) rfl)).trans hb.symm
  obtain ⟨cs, ⟨h3, h4⟩, h5⟩ := h2
  refine ⟨cs, ⟨h3, ?_⟩, h5⟩
  rcases h4 with h4 | ⟨g, cap, cur, q1, q2, q3, q4⟩
  · exact .inl h4
  · exact .inr ⟨g, cap, cur, q1, q2, hk g _ _ _ q3 (by decide) (fun e => by subst e; exact ne_type hG q3 (by decide) rfl), q4⟩
/-- bytes and a code are handed back -/
def BytP (W : World) (bs : List Nat) (e : Ending) (w' : World) : Prop := ∃ A c, e = .returned (.tuple #[.slice A bs.length c, .int .i64 0]) ∧ RdB w' (.slice A bs.length c) bs ∧ Below W.heap.size W w'
theorem ptree_nil (w : World) : Calls Tryz.prog 28 #[.pointer none] w fun e w' => e = .returned (.tuple #[.slice none 0 0, .int .i64 1]) ∧ Below w.heap.size w w' := by
  go_enter Tryz.func28, Tryz.ntmps28
  go_wp2_with fail
  go_ret2
  exact ⟨rfl, (by repeat (first | exact Below.refl _ _ | (refine Below.drew ?_) | (refine below_drewN' ?_ _) | (refine below_alloc' ?_ _) | (refine Below.setCell ?_ (by first | exact Nat.le_refl _ | (simp; done) | (simp; omega)) _)))⟩
set_option maxRecDepth 100000 in
set_option maxHeartbeats 2000000 in
theorem ptree_any (w : World) (t k : Nat) (l : List En) (ht : TrR w t k l) (hn : l.length ≤ 60) :
    Calls Tryz.prog 28 #[.pointer (some ⟨t, 0, none⟩)] w fun e w' => BytP w (Pk.bytesE k l) e w' := by
  have HT := Lib.hid ht
  have het := ht.et
  have hvals : ∀ e ∈ l, e.v < 2 ^ 64 := by
    obtain ⟨r, _, hr⟩ := ht.c1
    cases r with
    | none => obtain rfl : l = [] := hr; simp
    | some b => exact Nd.vals hr
  have HD := Lib.hid (And.intro ht.k16 (And.intro hn (And.intro het hvals)))
  have HLN := Lib.hid (fun W (h : Below w.heap.size w W) => tlen_any W t k l (ht.bel h) (by omega))
  have HKK := Lib.hid (fun W (h : Below w.heap.size w W) => tk_any W t k (Below.keeps h _ _ ht.c0))
  have HBG := Lib.hid (show ∀ w' : World, Calls Tryz.prog 80 #[.string ⟨#[80, 72]⟩, .int .i64 (k : Nat), .int .i64 (l.length : Nat)] w' fun e w'' => BegP w' (hd 80 72 k l.length) (Pk.zeros k) e w'' from fun w' => begin_any 80 72 k l.length w' ht.k16 (by omega))
  obtain ⟨r, c1, hr⟩ := ht.c1
  obtain ⟨q, hq⟩ := pv_ex r
  have HAL := Lib.hid (fun W (h : Below w.heap.size w W) => wall_any W k r l (hr.below h) ht.k1 ht.k16 (by omega))
  rw [hq] at HAL c1
  have HRT := Lib.hid (fun W (h : Below w.heap.size w W) => troot_any W t q (Below.keeps h _ _ c1))
  clear ht het hvals hn c1 hr hq
  go_enter Tryz.func28, Tryz.ntmps28
  go_wp2_with fail
  refine (HKK.out _ (Below.refl _ _)).mono ?_
  rintro e w1 ⟨rfl, hw⟩
  obtain rfl := hw.symm
  clear hw
  go_wp2_with fail
  refine (HLN.out _ (Below.refl _ _)).mono ?_
  rintro e w2 ⟨rfl, hb2⟩
  have HB2 := Lib.hid hb2
  clear hb2
  go_wp2_with fail
  refine (HBG.out _).mono ?_
  rintro e w3 ⟨G, rfl, hI3⟩
  have HI3 := Lib.hid hI3
  have HB3 := Lib.hid (HB2.out.trans (hI3.bel.mono HB2.out.size))
  clear hI3
  go_wp2_with fail
  refine (HRT.out _ HB3.out).mono ?_
  rintro e w4 ⟨rfl, hw⟩
  obtain rfl := hw.symm
  clear hw
  go_wp2_with fail
  refine (HAL.out _ HB3.out).mono ?_
  rintro e w5 ⟨v, rfl, hown, hb5⟩
  have HI5 := Lib.hid (HI3.out.below hb5)
  have HB5 := Lib.hid (HB3.out.trans (hb5.mono HB3.out.size))
  have HO5 := Lib.hid hown
  obtain ⟨A, c, rfl⟩ := hown.shape
  clear hown hb5
  go_wp2_with fail
  go_loopw [18] (fun i wr => ∃ (j : Nat) (acc last : List Nat), j ≤ l.length ∧ i = .int .i64 j ∧ InvW w2 G acc last wr ∧ acc ++ Pk.allE last (l.drop j) = Pk.bytesE k l ∧ last.length = k ∧ (∀ x ∈ last, x < 2 ^ 64) ∧ acc.length ≤ 22 + j * 200 ∧ OwnD (PtNew wr) w3 wr (.slice A l.length c) l) (fun i _ => l.length - (intOf i).toNat)
  case atStart => exact ⟨0, _, Pk.zeros k, Nat.zero_le _, rfl, HI5.out, by rw [List.drop_zero]; unfold Pk.bytesE hd; simp, by unfold Pk.zeros; simp, fun x hx => by unfold Pk.zeros at hx; have := List.eq_of_mem_replicate hx; omega, by have := Pk.leb_length k; have := Pk.leb_length l.length; unfold hd; simp; omega, HO5.out⟩
  case round =>
    obtain ⟨j, acc, last, hj, rfl, hI, hacc, hll, hlo, hlen, hown⟩ := hrel
    have HI := Lib.hid hI
    have HO := Lib.hid hown
    by_cases hlt : j < l.length
    · have h3 : (j : Int) < (l.length : Int) := by omega
      have h5 : (0 : Int) ≤ (j : Int) := by omega
      have hmem := List.getElem_mem hlt
      obtain ⟨g, cap, cur, e1, hg1, hg2, hg3, hg4, hg5, hg6⟩ := hown.cells (by intro e; rw [e] at hlt; simp at hlt)
      injection e1 with e1 e2 e3
      subst e1 e3
      obtain ⟨u, x0, hu, x1⟩ := hg6 j hlt
      have k0 : wr.cell? ⟨g, j * 2, none⟩ = some u := by simp [World.cell?, hg2, x0]
      have k1 : wr.cell? ⟨g, j * 2 + 1, none⟩ = some (.int .u64 (l[j].v : Nat)) := by simp [World.cell?, hg2, x1]
      have hgl := lt_of_block hg2
      have HPw := Lib.hid hu
      obtain ⟨A0, cc, rfl, hx0⟩ := RdU.point hu.rd
      have HX := Lib.hid (show l[j].p.length = k ∧ last.length = k ∧ (∀ x ∈ l[j].p, x < 2 ^ 64) ∧ (∀ x ∈ last, x < 2 ^ 64) ∧ l[j].v < 2 ^ 64 from ⟨HD.out.2.2.1.len _ hmem, hll, HD.out.2.2.1.ok _ hmem, hlo, HD.out.2.2.2 _ hmem⟩)
      rw [Pk.drop_allE hlt] at hacc
      have HA := Lib.hid hacc
      have HLen := Lib.hid (show acc.length ≤ 22 + j * 200 ∧ j ≤ 60 ∧ (Pk.lebP l[j].p last).length ≤ 160 ∧ (Pk.leb l[j].v).length ≤ 10 by
        have := Pk.lebP_length l[j].p last
        have := Pk.leb_length l[j].v
        have := HX.out.1
        have := HD.out.1
        have := HD.out.2.1
        omega)
      have HW := Lib.hid (show wrap64 ((j : Int) + 1) = ((j + 1 : Nat) : Int) by have := HD.out.2.1; unfold wrap64; omega)
      clear hown hu hx0 hmem hacc hll hlo hlen hI hg1 hg2 hg3 hg4 hg5 hg6 x0 x1
      go_wp2_with fail
      have hIa := HI.out.below (below_alloc' (Below.refl _ _) (.cells #[.slice A0 l[j].p.length cc, .int .u64 (l[j].v : Nat)] 35))
      have hbox0 := heap_alloc_new wr (.cells #[.slice A0 l[j].p.length cc, .int .u64 (l[j].v : Nat)] 35 (0, 0))
      have hGw := HI.out.lt
      obtain ⟨C, hC⟩ : ∃ C, wr.heap.size = C := ⟨_, rfl⟩
      have HOa := Lib.hid (show OwnD (PtNew (wr.alloc (.cells #[.slice A0 l[j].p.length cc, .int .u64 (l[j].v : Nat)] 35))) w3 (wr.alloc (.cells #[.slice A0 l[j].p.length cc, .int .u64 (l[j].v : Nat)] 35)) (.slice (some ⟨g, 0, none⟩) l.length c) l from (HO.out.alloc _).mono fun u p hu => hu.below (below_alloc' (Below.refl _ _) _))
      have HPa := Lib.hid (HPw.out.below (below_alloc' (Below.refl _ _) (.cells #[.slice A0 l[j].p.length cc, .int .u64 (l[j].v : Nat)] 35)))
      have HIa := Lib.hid hIa
      clear hIa k0 k1 hgl
      rw [hC] at hbox0 hGw ⊢
      generalize wr.alloc (.cells #[.slice A0 l[j].p.length cc, .int .u64 (l[j].v : Nat)] 35) = wa at *
      refine (wPoint2_any w2 wa G l[j].p last acc _ HIa.out (.inr HPa.out) (by rw [HX.out.1, HX.out.2.1]) (by rw [HX.out.1]; have := HD.out.1; omega) HX.out.2.2.1 HX.out.2.2.2.1 (by have := HLen.out; omega)).mono ?_
      rintro e wC ⟨rfl, hI4, hk4⟩
      have hbox4 := hk4 C _ _ _ hbox0 (by decide) (by omega)
      have HO4 := Lib.hid (InvW.ownD HOa.out hk4 (let ⟨_, _, h, _⟩ := HIa.out; ⟨_, h⟩))
      have HI4 := Lib.hid hI4
      have HBx := Lib.hid hbox4
      obtain ⟨y0, y1, _⟩ := cells_of_two hbox4
      have hlC : C < wC.heap.size := lt_of_block hbox4
      clear hbox0 hbox4 hI4 hk4 hC
      go_wp2_with fail
      refine (wNumber_any w2 _ G l[j].v _ _ HI4.out HX.out.2.2.2.2 (by have := HLen.out; rw [List.length_append]; omega)).mono ?_
      rintro e w6 ⟨rfl, hI6, hk6⟩
      have HI6 := Lib.hid hI6
      have HO6 := Lib.hid (InvW.ownD HO4.out hk6 (let ⟨_, _, h, _⟩ := HI4.out; ⟨_, h⟩))
      clear hI6 hk6 y0 y1
      go_wp2_with fail
      go_roundw
      case rel => exact ⟨j + 1, _, l[j].p, by omega, by rw [HW.out], HI6.out, by rw [← HA.out]; simp [Pk.oneE], HX.out.1, HX.out.2.2.1, by have := HLen.out; rw [List.length_append, List.length_append]; omega, HO6.out⟩
      case measure => rw [intOf_of' HW.out, intOf_of' rfl]; omega
    · have h3 : ¬ (j : Int) < (l.length : Int) := by omega
      have HE := Lib.hid (show acc = Pk.bytesE k l by rw [← hacc, List.drop_of_length_le (by omega)]; simp [Pk.allE])
      have HBw := Lib.hid (HB2.out.trans (hI.bel.mono HB2.out.size))
      obtain ⟨vb, vl, hblk, hownb, hpt, hb, hG⟩ := hI
      obtain ⟨A8, c8, rfl⟩ := hownb.shape
      have hlG : G < wr.heap.size := lt_of_block hblk
      obtain ⟨q0, q1, qf⟩ := cells_of_two hblk
      have HOw := Lib.hid hownb.rd
      clear hacc hblk hownb hpt hb hG hlen hown
      go_wp2_with fail
      go_ret2
      rw [← HE.out]
      exact ⟨A8, c8, rfl, HOw.out, HBw.out⟩

set_option maxRecDepth 100000 in
set_option maxHeartbeats 4000000 in
theorem rTree_any (k : Nat) (l : List En) (vl0 : Value) (w : World) (hl : RdE w vl0 l) (et : Et k l) (hk : 1 ≤ k ∧ k ≤ 16) (hn : l.length ≤ 60) (ov : ∀ e ∈ l, e.v < 2 ^ 64) :
    Calls Tryz.prog 30 #[.int .i64 (k : Nat), vl0] w fun e w' => RetB w (Pk.bytesE k l) e w' := by
  obtain ⟨A, c, rfl, _, ga0⟩ := hl
  have HD := Lib.hid (And.intro hk.2 (And.intro hn (And.intro et ov)))
  have HG := Lib.hid ga0
  have hw1 : IntKind.u64.wrap (k : Int) = (k : Int) := by unfold IntKind.wrap; simp [IntKind.bits, IntKind.signed]; omega
  have hw2 : IntKind.u64.wrap (l.length : Int) = (l.length : Int) := by unfold IntKind.wrap; simp [IntKind.bits, IntKind.signed]; omega
  clear et hk hn ov ga0
  go_enter Tryz.func30, Tryz.ntmps30
  go_wp2_with fail
  have HO := Lib.hid (OwnB.lit2 (W := w) (w := w) (Nat.le_refl _) rfl 80 72)
  have HB := Lib.hid (show Below w.heap.size w (w.alloc (.cells #[.int .u8 80, .int .u8 72] 5)) from (by repeat (first | exact Below.refl _ _ | assumption | (refine Below.drew ?_) | (refine below_drewN' ?_ _) | (refine below_alloc' ?_ _))))
  refine (rBytes_any k _ (by have := HD.out.1; omega)).mono ?_
  rintro e w1 ⟨v1, rfl, hr1, hb1⟩
  have HR := Lib.hid hr1
  have HO' := Lib.hid (HO.out.below hb1)
  have HB' := Lib.hid (HB.out.trans (hb1.mono HB.out.size))
  clear HO HB
  have HO := HO'
  have HB := HB'
  clear HO' HB'
  clear hr1 hb1
  go_wp2_with ((at_builtin; refine wpList_append_B rfl (.tmp 8) (.tmp 11) rfl w ([80, 72]) (Pk.leb k) ?_ ?_ ?_ ?_ ?_))
  · exact HO.out
  · exact HR.out
  · exact HB.out
  · have := Pk.leb_length k; simp; omega
  intro v2 w2 hown2 hb2 hg2
  clear HO HB HR
  have HO := Lib.hid (show OwnB w w2 v2 (([80, 72]) ++ (Pk.leb k)) by first | exact hown2 | simpa using hown2)
  have HB := Lib.hid hb2
  clear hown2 hb2 hg2
  go_wp2_with fail
  refine (rBytes_any l.length _ (by have := HD.out.2.1; omega)).mono ?_
  rintro e w3 ⟨v3, rfl, hr3, hb3⟩
  have HR := Lib.hid hr3
  have HO' := Lib.hid (HO.out.below hb3)
  have HB' := Lib.hid (HB.out.trans (hb3.mono HB.out.size))
  clear HO HB
  have HO := HO'
  have HB := HB'
  clear HO' HB'
  clear hr3 hb3
  go_wp2_with ((at_builtin; refine wpList_append_B rfl (.tmp 13) (.tmp 17) rfl w ([80, 72] ++ Pk.leb k) (Pk.leb l.length) ?_ ?_ ?_ ?_ ?_))
  · exact HO.out
  · exact HR.out
  · exact HB.out
  · have := Pk.leb_length k; have := Pk.leb_length l.length; simp; omega
  intro v4 w4 hown4 hb4 hg4
  clear HO HB HR
  have HO := Lib.hid (show OwnB w w4 v4 (([80, 72] ++ Pk.leb k) ++ (Pk.leb l.length)) by first | exact hown4 | simpa using hown4)
  have HB := Lib.hid hb4
  clear hown4 hb4 hg4
  go_wp2_with ((at_make; refine wpList_make_zeros rfl _ _ rfl k rfl rfl ?_ ?_))
  · have := HD.out.1; omega
  intro w5 hz5 hb5
  have HO' := Lib.hid (HO.out.below hb5)
  have HB' := Lib.hid (HB.out.trans (hb5.mono HB.out.size))
  have HZ := Lib.hid hz5
  clear HO HB hz5 hb5
  go_wp2_with fail
  go_loopw [5, 6, 7] (fun vo vl i wr => ∃ (j : Nat) (acc last : List Nat), j ≤ l.length ∧ i = .int .i64 j ∧ OwnB w wr vo acc ∧ PtAny w wr vl last ∧ acc ++ Pk.allE last (l.drop j) = Pk.bytesE k l ∧ last.length = k ∧ (∀ x ∈ last, x < 2 ^ 64) ∧ acc.length ≤ 22 + j * 200 ∧ Below w.heap.size w wr) (fun _ _ i _ => l.length - (intOf i).toNat)
  case atStart => exact ⟨0, _, Pk.zeros k, Nat.zero_le _, rfl, HO'.out, .inr HZ.out, by rw [List.drop_zero]; unfold Pk.bytesE; simp, by unfold Pk.zeros; simp, fun x hx => by unfold Pk.zeros at hx; have := List.eq_of_mem_replicate hx; omega, by have := Pk.leb_length k; have := Pk.leb_length l.length; simp; omega, HB'.out⟩
  case round =>
    obtain ⟨j, acc, last, hj, rfl, hown, hpt, hacc, hll, hlo, hlen, hb⟩ := hrel
    have HO := Lib.hid hown
    have HB := Lib.hid hb
    have HL := Lib.hid hpt
    have HN := Lib.hid hlen
    clear hown hpt hb
    by_cases hlt : j < l.length
    · have h3 : (j : Int) < l.length := by omega
      have h5 : (0 : Int) ≤ (j : Int) := by omega
      obtain ⟨bk, ofs, rfl, ga⟩ := HG.out (by omega)
      obtain ⟨v0, kw0, hv0, kw1⟩ := ga j hlt
      have HPw := Lib.hid hv0
      obtain ⟨A0, cc, rfl, hx0⟩ := RdU.point hv0
      have Kk0 := Lib.hid kw0
      have Kk1 := Lib.hid kw1
      have k0 := Below.keeps HB.out _ _ kw0
      have k1 := Below.keeps HB.out _ _ kw1
      have hblt : bk < w.heap.size := World.block_lt_of_cell? w _ kw0
      have hmem := List.getElem_mem hlt
      have HX := Lib.hid (show l[j].p.length = k ∧ last.length = k ∧ (∀ x ∈ l[j].p, x < 2 ^ 64) ∧ (∀ x ∈ last, x < 2 ^ 64) ∧ l[j].v < 2 ^ 64 from ⟨HD.out.2.2.1.len _ hmem, hll, HD.out.2.2.1.ok _ hmem, hlo, HD.out.2.2.2 _ hmem⟩)
      rw [Pk.drop_allE hlt] at hacc
      have HA := Lib.hid hacc
      have HLen := Lib.hid (show acc.length ≤ 22 + j * 200 ∧ j ≤ 60 ∧ (Pk.lebP l[j].p last).length ≤ 160 ∧ (Pk.leb l[j].v).length ≤ 10 by
        have := Pk.lebP_length l[j].p last
        have := Pk.leb_length l[j].v
        have := HX.out.1
        have := HD.out.1
        have := HD.out.2.1
        have := HN.out
        omega)
      have HW := Lib.hid (show wrap64 ((j : Int) + 1) = ((j + 1 : Nat) : Int) by have := HD.out.2.1; unfold wrap64; omega)
      clear ga hv0 hx0 hmem hacc hll hlo kw0 kw1
      go_wp2_with fail
      refine (rPoint_any l[j].p last _ u6 _ (HPw.out.below HB.out) (HL.out.rd HB.out) (by rw [HX.out.1, HX.out.2.1]) (by rw [HX.out.1]; have := HD.out.1; omega) HX.out.2.2.1 HX.out.2.2.2.1).mono ?_
      rintro e w1 ⟨v1, rfl, hr1, hb1⟩
      have HR := Lib.hid hr1
      have HO' := Lib.hid (HO.out.below hb1)
      have HB' := Lib.hid (HB.out.trans (hb1.mono HB.out.size))
      have HL' := Lib.hid (HL.out.keep fun b cur fr hbk => hb1.block b (lt_of_block hbk))
      clear HL
      have HL := HL'
      clear HL'
      clear HO HB
      have HO := HO'
      have HB := HB'
      clear HO' HB'
      replace k0 := Below.keeps HB.out _ _ Kk0.out
      replace k1 := Below.keeps HB.out _ _ Kk1.out
      clear hr1 hb1
      go_wp2_with ((at_builtin; refine wpList_append_B rfl (.tmp 27) (.tmp 34) rfl w (acc) (Pk.lebP l[j].p last) ?_ ?_ ?_ ?_ ?_))
      · exact HO.out
      · exact HR.out
      · exact HB.out
      · have := HLen.out; omega
      intro v2 w2 hown2 hb2 hg2
      have HL' := Lib.hid (HL.out.grown HO.out hg2)
      clear HL
      have HL := HL'
      clear HL'
      clear HO HB HR
      have HO := Lib.hid (show OwnB w w2 v2 ((acc) ++ (Pk.lebP l[j].p last)) by first | exact hown2 | simpa using hown2)
      have HB := Lib.hid hb2
      replace k0 := Below.keeps HB.out _ _ Kk0.out
      replace k1 := Below.keeps HB.out _ _ Kk1.out
      clear hown2 hb2 hg2
      go_wp2_with fail
      refine (rBytes_any l[j].v _ HX.out.2.2.2.2).mono ?_
      rintro e w3 ⟨v3, rfl, hr3, hb3⟩
      have HR := Lib.hid hr3
      have HO' := Lib.hid (HO.out.below hb3)
      have HB' := Lib.hid (HB.out.trans (hb3.mono HB.out.size))
      have HL' := Lib.hid (HL.out.keep fun b cur fr hbk => hb3.block b (lt_of_block hbk))
      clear HL
      have HL := HL'
      clear HL'
      clear HO HB
      have HO := HO'
      have HB := HB'
      clear HO' HB'
      replace k0 := Below.keeps HB.out _ _ Kk0.out
      replace k1 := Below.keeps HB.out _ _ Kk1.out
      clear hr3 hb3
      go_wp2_with ((at_builtin; refine wpList_append_B rfl (.tmp 36) (.tmp 42) rfl w (acc ++ Pk.lebP l[j].p last) (Pk.leb l[j].v) ?_ ?_ ?_ ?_ ?_))
      · exact HO.out
      · exact HR.out
      · exact HB.out
      · have := HLen.out; rw [List.length_append]; omega
      intro v4 w4 hown4 hb4 hg4
      have HL' := Lib.hid (HL.out.grown HO.out hg4)
      clear HL
      have HL := HL'
      clear HL'
      clear HO HB HR
      have HO := Lib.hid (show OwnB w w4 v4 ((acc ++ Pk.lebP l[j].p last) ++ (Pk.leb l[j].v)) by first | exact hown4 | simpa using hown4)
      have HB := Lib.hid hb4
      replace k0 := Below.keeps HB.out _ _ Kk0.out
      replace k1 := Below.keeps HB.out _ _ Kk1.out
      clear hown4 hb4 hg4
      go_wp2_with fail
      go_roundw
      case rel => exact ⟨j + 1, acc ++ Pk.lebP l[j].p last ++ Pk.leb l[j].v, l[j].p, by omega, by rw [HW.out], HO.out, .inl HPw.out, by rw [← HA.out]; simp [Pk.oneE], HX.out.1, HX.out.2.2.1, by have := HLen.out; rw [List.length_append, List.length_append]; omega, HB.out⟩
      case measure => rw [intOf_of' HW.out, intOf_of' rfl]; omega
    · have HE := Lib.hid (show acc = Pk.bytesE k l by rw [← hacc, List.drop_of_length_le (by omega)]; simp [Pk.allE])
      clear hacc
      go_wp2_with fail
      go_ret
      rw [← HE.out]
      exact RetB.mk HO.out.rd HB.out
end Go.Proofs.YtdkomhmciihkiaaGreat
/-! PkR -/
namespace Go.Proofs.YtdkomhmciihkiaaGreat
open Go.RowKit
set_option linter.unusedVariables false
set_option linter.unusedSimpArgs false

/-- the reader at block G: the bytes that are left, the point ahead -/
def InvR (W : World) (G : Nat) (rest : List Nat) (vl : Value) (last : Option (List Nat)) (w : World) : Prop :=
  ∃ vb, w.heap[G]? = some (.cells #[vb, vl] 143 (0, 0)) ∧ RdB W vb rest ∧ (match last with | none => vl = .slice none 0 0 | some p => PtNew w vl p) ∧ Below W.heap.size W w ∧ W.heap.size ≤ G
/-- all but block G stands -/
def KeepR (G : Nat) (w w' : World) : Prop := (∀ b o, w.heap[b]? = some o → b ≠ G → w'.heap[b]? = some o) ∧ w.heap.size ≤ w'.heap.size
theorem KeepR.refl (G : Nat) (w : World) : KeepR G w w := ⟨fun b o h _ => h, Nat.le_refl _⟩
theorem KeepR.trans {G : Nat} {a b c : World} (h : KeepR G a b) (k : KeepR G b c) : KeepR G a c := ⟨fun x o h1 h2 => k.1 x o (h.1 x o h1 h2) h2, Nat.le_trans h.2 k.2⟩
theorem KeepR.below {G : Nat} {w w' : World} (h : Below w.heap.size w w') : KeepR G w w' := ⟨fun b o h1 _ => (h.block b (lt_of_block h1)).trans h1, h.size⟩
theorem KeepR.set {G k : Nat} {w : World} {u : Value} : KeepR G w (w.setCell ⟨G, k, none⟩ u) := ⟨fun b o h1 h3 => (Below.heap_setCell _ _ _ _ h3).trans h1, by simp⟩
theorem PtNew.keepR {G : Nat} {w w' : World} {u : Value} {p : List Nat} {cG : Array Value} {tG : TypeId} {fG : Nat × Nat} (h : PtNew w u p) (hG : w.heap[G]? = some (.cells cG tG fG)) (ht : tG ≠ 22) (hk : KeepR G w w') : PtNew w' u p :=
  h.keepBlock fun b cur fr hbk => (hk.1 b _ hbk (ne_type hbk hG (fun e => ht e.symm))).trans hbk.symm
theorem InvR.lt {W w : World} {G : Nat} {rest : List Nat} {vl : Value} {last : Option (List Nat)} (h : InvR W G rest vl last w) : G < w.heap.size := let ⟨_, h, _⟩ := h; lt_of_block h
theorem InvR.bel {W w : World} {G : Nat} {rest : List Nat} {vl : Value} {last : Option (List Nat)} (h : InvR W G rest vl last w) : Below W.heap.size W w := let ⟨_, _, _, _, h, _⟩ := h; h
theorem InvR.below {W w w' : World} {G : Nat} {rest : List Nat} {vl : Value} {last : Option (List Nat)} (h : InvR W G rest vl last w) (hb : Below w.heap.size w w') : InvR W G rest vl last w' := by
  obtain ⟨vb, h1, h2, h3, h4, h5⟩ := h
  refine ⟨vb, (hb.block G (lt_of_block h1)).trans h1, h2, ?_, h4.trans (hb.mono h4.size), h5⟩
  cases last with
  | none => exact h3
  | some p => exact PtNew.below h3 hb

set_option maxRecDepth 8000 in
theorem must_true (e : Int) (w : World) : Calls Tryz.prog 89 #[.bool true, .int .i64 e] w fun e' w' => e' = .returned (.tuple #[]) ∧ w' = w := by
  go_enter Tryz.func89, Tryz.ntmps89
  go_wp2_with fail
  go_end0
  exact ⟨rfl, rfl⟩

theorem RdB.tail {W : World} {b o c : Nat} {x : Nat} {l : List Nat} (h : RdB W (.slice (some ⟨b, o, none⟩) (l.length + 1) c) (x :: l)) :
    RdB W (.slice (if c = 1 then some (⟨b, o, none⟩ : Addr) else some ⟨b, o + 1, none⟩) l.length (c - 1)) l := by
  obtain ⟨A, c', e, ⟨h1, h2, h3⟩, hx⟩ := h
  injection e with e1 e2 e3
  subst e1 e3
  obtain ⟨b', o', ha, hch⟩ := hx (by simp)
  injection ha with ha
  injection ha with ha1 ha2
  subst ha1 ha2
  simp only [List.length_cons] at h1
  refine ⟨_, _, rfl, ⟨by omega, by omega, fun h => by split <;> exact ⟨_, _, rfl⟩⟩, fun hp => ⟨b, o + 1, by rw [if_neg (by omega)], fun j hj => ?_⟩⟩
  have := hch (j + 1) (by simpa using hj)
  rw [show o + 1 + j = o + (j + 1) by omega]
  simpa using this

set_option maxRecDepth 8000 in
set_option maxHeartbeats 1000000 in
theorem one_any (W w : World) (G c : Nat) (rest : List Nat) (vl : Value) (last : Option (List Nat)) (hi : InvR W G (c :: rest) vl last w) (hn : rest.length ≤ 1000000) :
    Calls Tryz.prog 144 #[.pointer (some ⟨G, 0, none⟩)] w fun e w' => e = .returned (.int .u8 ((c : Nat) : Int)) ∧ InvR W G rest vl last w' ∧ KeepR G w w' := by
  have hlG := hi.lt
  obtain ⟨vb, hblk, hrd, hl, hb, hG⟩ := hi
  obtain ⟨k0, k1, kf⟩ := cells_of_two hblk
  have HR := Lib.hid hrd
  obtain ⟨A, cp, rfl, ⟨hc1, hc2, hc3⟩, hx⟩ := hrd
  simp only [List.length_cons] at *
  obtain ⟨bk, ofs, rfl, hc⟩ := hx (by omega)
  have m0 := Below.keeps hb _ _ (hc 0 (by omega))
  simp only [Nat.add_zero, List.getElem_cons_zero] at m0
  have hmlt : bk < w.heap.size := World.block_lt_of_cell? w _ m0
  obtain ⟨Ax, hAx⟩ : ∃ Ax, (if cp = 1 then some (⟨bk, ofs, none⟩ : Addr) else some ⟨bk, ofs + 1, none⟩) = Ax := ⟨_, rfl⟩
  have HT := Lib.hid (show RdB W (.slice Ax rest.length (cp - 1)) rest from hAx ▸ RdB.tail HR.out)
  have HI := Lib.hid (And.intro hblk (And.intro hl (And.intro hb hG)))
  have s1 : (rest.length : Int) + 1 > 0 := by omega
  have s2 : (0 : Int) < (rest.length : Int) + 1 := by omega
  have s3 : (1 : Int) ≤ (rest.length : Int) + 1 := by omega
  clear hblk hl hb hG hc hx hc2 hc3 HR
  go_enter Tryz.func144, Tryz.ntmps144
  go_wp2_with fail
  refine (must_true 10 _).mono ?_
  rintro e w1 ⟨rfl, rfl⟩
  go_wp2_with fail
  go_ret
  refine ⟨rfl, ⟨_, two_setCell HI.out.1, HT.out, ?_, HI.out.2.2.1.setCell HI.out.2.2.2 _, HI.out.2.2.2⟩, KeepR.set⟩
  cases last with
  | none => exact HI.out.2.1
  | some p => exact PtNew.keepR HI.out.2.1 HI.out.1 (by decide) KeepR.set

theorem and_127 (c : Nat) (h : c < 256) : bits .and .u8 (c : Int) 127 = ((c % 128 : Nat) : Int) := by
  have h0 : ∀ m : Fin 256, bits .and .u8 ((m.val : Nat) : Int) 127 = ((m.val % 128 : Nat) : Int) := by decide +kernel
  exact h0 ⟨c, h⟩
theorem or_digit (acc d s : Nat) (h1 : acc < 2 ^ s) (h2 : acc + d * 2 ^ s < 2 ^ 64) : bits .or .u64 (acc : Int) ((d * 2 ^ s : Nat) : Int) = ((acc + d * 2 ^ s : Nat) : Int) := by
  rw [bits_or_u64_nat _ _ (by omega) (by omega)]
  have := Nat.two_pow_add_eq_or_of_lt (i := s) h1 d
  rw [Nat.or_comm, Nat.mul_comm, ← this]
  omega
theorem shl_digit (d s : Nat) (hs : s ≤ 63) (h2 : d * 2 ^ s < 2 ^ 64) : IntKind.u64.wrap ((d : Int) * 2 ^ s) = ((d * 2 ^ s : Nat) : Int) := by
  rw [show ((d : Int) * 2 ^ s) = ((d * 2 ^ s : Nat) : Int) by push_cast; rfl]
  unfold IntKind.wrap; simp only [IntKind.bits, IntKind.signed]
  simp only [Bool.false_eq_true, if_false, Bool.false_and]
  omega

/-- so much of a number has been read -/
structure NumAt (u j cur acc s : Nat) : Prop where
  j9 : j ≤ 9
  s7 : s = 7 * j
  tot : acc + cur * 2 ^ s = u
  lt : acc < 2 ^ s
  pos : j = 0 ∨ 1 ≤ cur
theorem NumAt.s63 {u j cur acc s : Nat} (h : NumAt u j cur acc s) : s ≤ 63 := by have := h.j9; have := h.s7; omega
theorem NumAt.digit {u j cur acc s : Nat} (h : NumAt u j cur acc s) (hu : u < 2 ^ 64) (d : Nat) (hd : d ≤ cur) : acc + d * 2 ^ s < 2 ^ 64 ∧ d * 2 ^ s < 2 ^ 64 := by
  have h1 := h.tot
  have h2 : d * 2 ^ s ≤ cur * 2 ^ s := Nat.mul_le_mul_right _ hd
  omega
theorem NumAt.last {u cur acc s : Nat} (h : NumAt u 9 cur acc s) (hu : u < 2 ^ 64) : cur ≤ 1 := by
  have h1 := h.tot
  have h2 : s = 63 := by have := h.s7; omega
  subst h2
  omega
theorem NumAt.next {u j cur acc s : Nat} (h : NumAt u j cur acc s) (h8 : j < 9) (h128 : 128 ≤ cur) : NumAt u (j + 1) (cur / 128) (acc + cur % 128 * 2 ^ s) (s + 7) := by
  have hp : 2 ^ (s + 7) = 2 ^ s * 128 := by rw [Nat.pow_add]
  have h1 := h.lt
  refine ⟨by omega, by have := h.s7; omega, ?_, ?_, .inr (by omega)⟩
  · rw [← h.tot, hp]
    generalize 2 ^ s = M at *
    have e : cur = 128 * (cur / 128) + cur % 128 := (Nat.div_add_mod cur 128).symm
    have e1 : cur * M = (128 * (cur / 128) + cur % 128) * M := by rw [← e]
    rw [e1, Nat.add_mul, Nat.mul_comm M 128, ← Nat.mul_assoc, Nat.mul_comm (cur / 128) 128]
    omega
  · rw [hp]
    generalize 2 ^ s = M at *
    have h2 : cur % 128 ≤ 127 := by omega
    have h3 : cur % 128 * M ≤ 127 * M := Nat.mul_le_mul_right _ h2
    omega

set_option maxRecDepth 8000 in
set_option maxHeartbeats 2000000 in
theorem rNumber_any (W w : World) (G u : Nat) (rest : List Nat) (vl : Value) (last : Option (List Nat)) (hi : InvR W G (Pk.leb u ++ rest) vl last w) (hu : u < 2 ^ 64) (hn : rest.length ≤ 100000) :
    Calls Tryz.prog 87 #[.pointer (some ⟨G, 0, none⟩)] w fun e w' => e = .returned (.int .u64 ((u : Nat) : Int)) ∧ InvR W G rest vl last w' ∧ KeepR G w w' := by
  have HU := Lib.hid (And.intro hu (And.intro hn hi))
  clear hu hn hi
  go_enter Tryz.func87, Tryz.ntmps87
  go_wp2_with fail
  go_loopw [3, 4] (fun vu vs wr => ∃ (j cur acc s : Nat), vu = .int .u64 (acc : Nat) ∧ vs = .int .i64 (s : Nat) ∧ NumAt u j cur acc s ∧ InvR W G (Pk.lebF (9 - j) cur ++ rest) vl last wr ∧ KeepR G w wr) (fun _ vs _ => 63 - (intOf vs).toNat)
  case atStart => exact ⟨0, u, 0, 0, rfl, rfl, ⟨by omega, rfl, by omega, by omega, .inl rfl⟩, HU.out.2.2, KeepR.refl _ _⟩
  case round =>
    obtain ⟨j, cur, acc, s, rfl, rfl, hN, hI, hkw⟩ := hrel
    have HN := Lib.hid hN
    have HKw := Lib.hid hkw
    have hs63 := hN.s63
    by_cases h128 : 128 ≤ cur
    · have hj8 : j < 9 := by
        rcases Nat.lt_or_ge j 9 with h | h
        · exact h
        · obtain rfl : j = 9 := by have := hN.j9; omega
          have := hN.last HU.out.1; omega
      obtain ⟨m, hm⟩ : ∃ m, 9 - j = m + 1 := ⟨8 - j, by omega⟩
      rw [hm, Pk.lebF_big _ _ h128] at hI
      have HI := Lib.hid hI
      have HM := Lib.hid (show m = 9 - (j + 1) by omega)
      have hdig := hN.digit HU.out.1 (cur % 128) (Nat.mod_le _ _)
      have HX := Lib.hid (hN.next hj8 h128)
      have HLen := Lib.hid (show (Pk.lebF m (cur / 128) ++ rest).length ≤ 1000000 by
        have := (Pk.lebF_length m (cur / 128)).2
        have := HU.out.2.1
        have := hN.j9
        rw [List.length_append]; omega)
      have hand := and_127 (cur % 128 + 128) (by omega)
      rw [show (cur % 128 + 128) % 128 = cur % 128 by omega] at hand
      have hshl := shl_digit (cur % 128) s hs63 hdig.2
      have hor := or_digit acc (cur % 128) s hN.lt hdig.1
      have hcb : cur % 128 + 128 < 256 := by omega
      have hw1 : IntKind.u64.wrap ((cur % 128 : Nat) : Int) = ((cur % 128 : Nat) : Int) := by unfold IntKind.wrap; simp [IntKind.bits, IntKind.signed]; omega
      have hs7 : s < 63 := by have := hN.s7; omega
      have hc128 : 128 ≤ cur % 128 + 128 := by omega
      generalize cur % 128 * 2 ^ s = x at *
      generalize cur % 128 + 128 = c at *
      generalize cur % 128 = d at *
      generalize acc + x = acc2 at *
      have t1 : (s : Int) < 63 := by omega
      have t2 : ¬ (c : Int) < 128 := by omega
      have HW := Lib.hid (show wrap64 ((s : Int) + 7) = ((s + 7 : Nat) : Int) by unfold wrap64; omega)
      clear hN hI hkw h128 hm hdig hs63 hcb hc128 hs7
      go_wp2_with fail
      refine (one_any W _ G c _ vl last HI.out HLen.out).mono ?_
      rintro e w4 ⟨rfl, hI4, hk4⟩
      have HI4 := Lib.hid hI4
      have HK4 := Lib.hid (HKw.out.trans hk4)
      clear hI4 hk4
      go_wp2_with fail
      refine (must_true 11 _).mono ?_
      rintro e w5 ⟨rfl, rfl⟩
      go_wp2_with fail
      go_roundw
      case rel => exact ⟨j + 1, cur / 128, acc2, s + 7, rfl, by first | rw [HW.out] | exact congrArg (Value.int .i64) (by omega), HX.out, by rw [← HM.out]; exact HI4.out, HK4.out⟩
      case measure => first | (rw [intOf_of' HW.out, intOf_of' rfl]; omega) | (rw [intOf_of' rfl, intOf_of' rfl]; omega)
    · rw [Pk.lebF_small _ _ (by omega)] at hI
      have HI := Lib.hid hI
      have hdig := hN.digit HU.out.1 cur (Nat.le_refl _)
      have HLen := Lib.hid (show ([] ++ rest : List Nat).length ≤ 1000000 by have := HU.out.2.1; simp; omega)
      have hand := and_127 cur (by omega)
      rw [Nat.mod_eq_of_lt (by omega)] at hand
      have hshl := shl_digit cur s hs63 hdig.2
      have hor := or_digit acc cur s hN.lt hdig.1
      have hw1 : IntKind.u64.wrap ((cur : Nat) : Int) = ((cur : Nat) : Int) := by unfold IntKind.wrap; simp [IntKind.bits, IntKind.signed]; omega
      have HT := Lib.hid hN.tot
      rw [hN.tot] at hor
      have h1 : s < 63 ∨ cur ≤ 1 := by
        rcases Nat.lt_or_ge j 9 with h | h
        · left; have := hN.s7; omega
        · obtain rfl : j = 9 := by have := hN.j9; omega
          right; exact hN.last HU.out.1
      have h2 : 0 < cur ∨ s = 0 := by
        rcases hN.pos with h | h
        · right; have := hN.s7; omega
        · left; exact h
      by_cases q2 : 0 < cur
      · generalize cur * 2 ^ s = x at *
        have t2 : (cur : Int) < 128 := by omega
        have t5 : (cur : Int) > 0 := by omega
        have t6 : (0 : Int) < cur := by omega
        clear hN hI hkw hdig h2
        by_cases q1 : s < 63
        · have t3 : (s : Int) < 63 := by omega
          clear q1 h1 hs63 h128
          go_wp2_with fail
          refine (one_any W _ G cur _ vl last HI.out HLen.out).mono ?_
          rintro e w4 ⟨rfl, hI4, hk4⟩
          have HI4 := Lib.hid hI4
          have HK4 := Lib.hid (HKw.out.trans hk4)
          clear hI4 hk4
          go_wp2_with fail
          refine (must_true 11 _).mono ?_
          rintro e w5 ⟨rfl, rfl⟩
          go_wp2_with fail
          refine (must_true 9 _).mono ?_
          rintro e w6 ⟨rfl, rfl⟩
          go_wp2_with fail
          go_ret
          exact ⟨rfl, HI4.out, HK4.out⟩
        · have t3 : ¬ (s : Int) < 63 := by omega
          have t4 : (cur : Int) ≤ 1 := by omega
          have hshl2 : IntKind.u64.wrap ((cur : Int) * 2 ^ min s 64) = (x : Int) := by rw [Nat.min_eq_left (by omega)]; exact hshl
          clear q1 h1 hs63 h128
          go_wp2_with fail
          refine (one_any W _ G cur _ vl last HI.out HLen.out).mono ?_
          rintro e w4 ⟨rfl, hI4, hk4⟩
          have HI4 := Lib.hid hI4
          have HK4 := Lib.hid (HKw.out.trans hk4)
          clear hI4 hk4
          go_wp2_with fail
          refine (must_true 11 _).mono ?_
          rintro e w5 ⟨rfl, rfl⟩
          go_wp2_with fail
          refine (must_true 9 _).mono ?_
          rintro e w6 ⟨rfl, rfl⟩
          go_wp2_with fail
          go_ret
          exact ⟨rfl, HI4.out, HK4.out⟩
      · obtain rfl : cur = 0 := by omega
        obtain rfl : s = 0 := by omega
        obtain rfl : acc = 0 := by have := hN.lt; omega
        obtain rfl : u = 0 := by have := hN.tot; omega
        clear hN hI hkw hdig h2 h1 hand hshl hor hw1 hs63 q2 h128
        have hw1 : IntKind.u64.wrap 0 = 0 := by decide
        have hor : bits .or .u64 0 0 = 0 := by decide
        go_wp2_with fail
        refine (one_any W _ G 0 _ vl last HI.out HLen.out).mono ?_
        rintro e w4 ⟨rfl, hI4, hk4⟩
        have HI4 := Lib.hid hI4
        have HK4 := Lib.hid (HKw.out.trans hk4)
        clear hI4 hk4
        go_wp2_with fail
        refine (must_true 11 _).mono ?_
        rintro e w5 ⟨rfl, rfl⟩
        go_wp2_with fail
        refine (must_true 9 _).mono ?_
        rintro e w6 ⟨rfl, rfl⟩
        go_wp2_with fail
        go_ret
        exact ⟨rfl, HI4.out, HK4.out⟩
end Go.Proofs.YtdkomhmciihkiaaGreat
/-! PkR2 -/
namespace Go.Proofs.YtdkomhmciihkiaaGreat
open Go.RowKit
set_option linter.unusedVariables false
set_option linter.unusedSimpArgs false

theorem cell_set_same {w : World} {a : Addr} {z : Value} (h : w.cell? a = some z) (v : Value) : (w.setCell a v).cell? a = some v := by
  exact World.cell?_setCell_same _ _ _ h
theorem cell_set_block {w : World} {a b : Addr} (v : Value) (h : a.block ≠ b.block) : (w.setCell b v).cell? a = w.cell? a := World.cell?_setCell_far _ _ _ _ (fun e => h e.symm)
theorem PtNew.setOther {w : World} {u x : Value} {p : List Nat} {g j : Nat} (h : PtNew w u p) (hg : ∀ b o n c, u = .slice (some ⟨b, o, none⟩) n c → b ≠ g) : PtNew (w.setCell ⟨g, j, none⟩ x) u p := by
  obtain ⟨h1, b, o, c, cur, fr, rfl, h2⟩ := h
  have hne := hg b o _ c rfl
  refine ⟨?_, b, o, c, cur, fr, rfl, (Below.heap_setCell _ _ _ _ hne).trans h2⟩
  obtain ⟨A, c', e, hx⟩ := h1
  refine ⟨A, c', e, fun hp => ?_⟩
  obtain ⟨b', o', ha, hc⟩ := hx hp
  refine ⟨b', o', ha, fun i hi => (cell_set_block _ ?_).trans (hc i hi)⟩
  subst ha
  injection e with e1
  injection e1 with e1
  injection e1 with e1
  show b' ≠ g
  rw [← e1]; exact hne
theorem InvR.setRow {W w : World} {G g j : Nat} {rest : List Nat} {vl x : Value} {last : Option (List Nat)} (h : InvR W G rest vl last w) (hG : g ≠ G) (hW : W.heap.size ≤ g) (hv : ∀ b o n c, vl = .slice (some ⟨b, o, none⟩) n c → b ≠ g) : InvR W G rest vl last (w.setCell ⟨g, j, none⟩ x) := by
  obtain ⟨vb, h1, h2, h3, h4, h5⟩ := h
  refine ⟨vb, (Below.heap_setCell _ _ _ _ (fun e => hG e.symm)).trans h1, h2, ?_, h4.setCell hW _, h5⟩
  cases last with
  | none => exact h3
  | some p => exact PtNew.setOther h3 hv
theorem KeepR.setNew {G g j : Nat} {w w' : World} {x : Value} (h : KeepR G w w') (hg : w.heap.size ≤ g) : KeepR G w (w'.setCell ⟨g, j, none⟩ x) :=
  ⟨fun b o h1 h2 => (Below.heap_setCell _ _ _ _ (by have := lt_of_block h1; show b ≠ g; omega)).trans (h.1 b o h1 h2), by simpa using h.2⟩
theorem Pk.lebP_cons (p q : List Nat) (j : Nat) (hp : j < p.length) (hq : j < q.length) : Pk.lebP (p.drop j) (q.drop j) = Pk.leb (p[j] ^^^ q[j]) ++ Pk.lebP (p.drop (j + 1)) (q.drop (j + 1)) := by
  rw [List.drop_eq_getElem_cons hp, List.drop_eq_getElem_cons hq]; rfl
set_option maxRecDepth 8000 in
set_option maxHeartbeats 4000000 in
theorem rPoint_last (W w : World) (G k : Nat) (p q rest : List Nat) (vl : Value) (hi : InvR W G (Pk.lebP p q ++ rest) vl (some q) w) (hp : p.length = k) (hq : q.length = k) (h1 : 1 ≤ k) (h16 : k ≤ 16) (op : ∀ x ∈ p, x < 2 ^ 64) (hoq : ∀ x ∈ q, x < 2 ^ 64) (hr : rest.length ≤ 50000) :
    Calls Tryz.prog 86 #[.pointer (some ⟨G, 0, none⟩), .int .i64 (k : Nat)] w fun e w' => ∃ g, e = .returned (.slice (some ⟨g, 0, none⟩) k k) ∧ PtNew w' (.slice (some ⟨g, 0, none⟩) k k) p ∧ InvR W G rest vl (some q) w' ∧ KeepR G w w' := by
  have HD := Lib.hid (And.intro hp (And.intro hq (And.intro h1 (And.intro h16 (And.intro op (And.intro hoq hr))))))
  have HI0 := Lib.hid hi
  have hvl : PtNew w vl q := let ⟨_, _, _, h, _⟩ := hi; h
  obtain ⟨hv1, bq, oq, cq, curq, frq, rfl, hvb⟩ := hvl
  obtain ⟨A2, cq2, hv2, gb0⟩ := RdU.point hv1
  obtain ⟨bq2, oq2, rfl, gb⟩ := gb0 (by omega)
  injection hv2 with hv2 _ hv3
  injection hv2 with hv2
  injection hv2 with hv2 hv4
  subst hv2 hv3 hv4
  have hbq : bq < w.heap.size := lt_of_block hvb
  have HGb := Lib.hid gb
  clear hi hp hq h1 h16 op hoq hr gb gb0 hv1 hvb
  go_enter Tryz.func86, Tryz.ntmps86
  go_wp2_with ((at_make; refine wpList_make_row rfl _ _ rfl k rfl rfl ?_ ?_))
  · have := HD.out.2.2.2.1; omega
  intro w1 hz1 hb1
  obtain ⟨g, hg⟩ : ∃ g, w.heap.size = g := ⟨_, rfl⟩
  rw [hg] at hz1
  have HZ1 := Lib.hid hz1
  have HI1 := Lib.hid (HI0.out.below hb1)
  have HK1 := Lib.hid (KeepR.below (G := G) hb1)
  have HG := Lib.hid (show g ≠ G by have := HI0.out.lt; omega)
  have HWg := Lib.hid (show W.heap.size ≤ g by have := HI0.out.bel.size; omega)
  clear hz1 hb1
  simp only [hg]
  go_wp2_with fail
  go_loopw [11] (fun i wr => ∃ (j : Nat), j ≤ k ∧ i = .int .i64 j ∧ PtRow wr g k (p.take j) ∧ InvR W G (Pk.lebP (p.drop j) (q.drop j) ++ rest) (.slice (some ⟨bq, oq, none⟩) q.length cq) (some q) wr ∧ KeepR G w wr) (fun i _ => k - (intOf i).toNat)
  case atStart => exact ⟨0, Nat.zero_le _, rfl, HZ1.out, HI1.out, HK1.out⟩
  case round =>
    obtain ⟨j, hj, rfl, hrow, hI, hkw⟩ := hrel
    have HKw := Lib.hid hkw
    have HRow := Lib.hid hrow
    clear hkw
    by_cases hlt : j < k
    · have hlp : j < p.length := by have := HD.out.1; omega
      have hlq : j < q.length := by have := HD.out.2.1; omega
      rw [Pk.lebP_cons p q j hlp hlq, List.append_assoc] at hI
      have HI := Lib.hid hI
      have t1 : (j : Int) < k := by omega
      have t2 : (0 : Int) ≤ (j : Int) := by omega
      have t4 : (j : Int) < q.length := by omega
      have HX := Lib.hid (Nat.xor_lt_two_pow (HD.out.2.2.2.2.1 _ (List.getElem_mem hlp)) (HD.out.2.2.2.2.2.1 _ (List.getElem_mem hlq)))
      have HLen := Lib.hid (show (Pk.lebP (p.drop (j + 1)) (q.drop (j + 1)) ++ rest).length ≤ 100000 by
        have h1 := Pk.lebP_length (p.drop (j + 1)) (q.drop (j + 1))
        have h2 : (p.drop (j + 1)).length ≤ p.length := by rw [List.length_drop]; omega
        have := HD.out.1
        have := HD.out.2.2.2.1
        have := HD.out.2.2.2.2.2.2
        rw [List.length_append]; omega)
      have HW := Lib.hid (show wrap64 ((j : Int) + 1) = ((j + 1 : Nat) : Int) by have := HD.out.2.2.2.1; unfold wrap64; omega)
      clear hrow hI
      go_wp2_with fail
      refine (rNumber_any W _ G (p[j] ^^^ q[j]) _ _ (some q) HI.out HX.out HLen.out).mono ?_
      rintro e w4 ⟨rfl, hI4, hk4⟩
      have hrow4 : PtRow w4 g k (p.take j) := HRow.out.stays fun o ho => hk4.1 g o ho HG.out
      obtain ⟨⟨z0, hz0⟩, hzf⟩ := hrow4.cell j hlt
      have hlg : g < w4.heap.size := hrow4.lt
      have hrow5 := hrow4.skip j (by rw [List.length_take]; omega) (.int .u64 ((p[j] ^^^ q[j] : Nat) : Int))
      have HK4 := Lib.hid (HKw.out.trans hk4)
      have hlG : G < w4.heap.size := hI4.lt
      obtain ⟨k0', k1', kf'⟩ : w4.cell? ⟨G, 1, none⟩ = some (.slice (some ⟨bq, oq, none⟩) q.length cq) ∧ w4.cell? ⟨bq, oq + j, none⟩ = some (.int .u64 (q[j] : Nat)) ∧ bq ≠ g := by
        obtain ⟨vb, hblk, hrd, hl, hb, hGG⟩ := hI4
        refine ⟨(cells_of_two hblk).2.1, ?_, by omega⟩
        obtain ⟨A2, cq2, hv2, gb0⟩ := RdU.point hl.rd
        obtain ⟨bq2, oq2, rfl, gb⟩ := gb0 (by omega)
        injection hv2 with hv2 _ hv3
        injection hv2 with hv2
        injection hv2 with hv2 hv4
        subst hv2 hv3 hv4
        exact gb j hlq
      have HI4 := Lib.hid hI4
      have c0' : (w4.setCell ⟨g, j, none⟩ (.int .u64 ((p[j] ^^^ q[j] : Nat) : Int))).cell? ⟨g, j, none⟩ = some (.int .u64 ((p[j] ^^^ q[j] : Nat) : Int)) := cell_set_same hz0 _
      have c1' : (w4.setCell ⟨g, j, none⟩ (.int .u64 ((p[j] ^^^ q[j] : Nat) : Int))).cell? ⟨G, 1, none⟩ = some (.slice (some ⟨bq, oq, none⟩) q.length cq) := (cell_set_block _ (fun e => HG.out e.symm)).trans k0'
      have c2' : (w4.setCell ⟨g, j, none⟩ (.int .u64 ((p[j] ^^^ q[j] : Nat) : Int))).cell? ⟨bq, oq + j, none⟩ = some (.int .u64 (q[j] : Nat)) := (cell_set_block _ kf').trans k1'
      have cf' : (w4.setCell ⟨g, j, none⟩ (.int .u64 ((p[j] ^^^ q[j] : Nat) : Int))).frozen? ⟨g, j, none⟩ = false := (World.frozen?_setCell ..).trans hzf
      have hxx : bits .xor .u64 ((p[j] ^^^ q[j] : Nat) : Int) (q[j] : Int) = (p[j] : Int) := by
        rw [natCast_xor_u64 _ _ HX.out (HD.out.2.2.2.2.2.1 _ (List.getElem_mem hlq)), Nat.xor_assoc, Nat.xor_self, Nat.xor_zero]
      clear hI4 hk4 hrow4
      go_wp2_with fail
      refine wp_region_vals 13 [fun v _ => v = .slice (some ⟨g, 0, none⟩) k k,
        fun v _ => v = .int .i64 (j : Nat),
        fun v _ => v = .pointer (some ⟨g, j, none⟩),
        fun v _ => v = .int .u64 ((p[j] ^^^ q[j] : Nat) : Int),
        fun v _ => v = .pointer (some ⟨G, 0, none⟩),
        fun v _ => v = .pointer (some ⟨G, 0, none⟩),
        fun v _ => v = .pointer (some ⟨G, 1, none⟩),
        fun v _ => v = .slice (some ⟨bq, oq, none⟩) q.length cq,
        fun v _ => v = .int .i64 (j : Nat),
        fun v _ => v = .pointer (some ⟨bq, oq + j, none⟩),
        fun v _ => v = .int .u64 (q[j] : Nat),
        fun v _ => v = .int .u64 (p[j] : Nat),
        fun v _ => v = .pointer (some ⟨g, j, none⟩)]
        (by kernel_rfl) (by kernel_rfl) (by kernel_rfl) (by kernel_rfl) ?_ ?_ ?_
      · intro V hV v w1 w2 h hb
        simp only [List.mem_cons, List.not_mem_nil, or_false] at hV
        rcases hV with rfl | rfl | rfl | rfl | rfl | rfl | rfl | rfl | rfl | rfl | rfl | rfl | rfl
        all_goals first | exact h | (exact h)
      · intro i o hi ho
        match i, hi with
        | 0, _ =>
        obtain rfl := Option.some.inj ho
        intro a1 w1 K hk hK
        have e5 : a1.tmps.getD 5 undef = .slice (some ⟨g, 0, none⟩) k k := hk.same 5 (by simp)
        simp [Region.wanted, Oper.wp, Act.eval, go_sem, e5, t1, t2, t4, c0', c1', c2', hxx]
        exact hK _ _ (Below.refl _ _) rfl
        | 1, _ =>
        obtain rfl := Option.some.inj ho
        intro a1 w1 K hk hK
        have e6 : a1.tmps.getD 6 undef = .int .i64 (j : Nat) := hk.same 6 (by simp)
        simp [Region.wanted, Oper.wp, Act.eval, go_sem, e6, t1, t2, t4, c0', c1', c2', hxx]
        exact hK _ _ (Below.refl _ _) rfl
        | 2, _ =>
        obtain rfl := Option.some.inj ho
        intro a1 w1 K hk hK
        have d24 : a1.tmps.getD 24 undef = .slice (some ⟨g, 0, none⟩) k k := hk.deps ⟨0, .data⟩ (by simp) rfl _ _ rfl rfl
        have d25 : a1.tmps.getD 25 undef = .int .i64 (j : Nat) := hk.deps ⟨1, .data⟩ (by simp) rfl _ _ rfl rfl
        simp [Region.wanted, Oper.wp, Act.eval, go_sem, d24, d25, t1, t2, t4, c0', c1', c2', hxx]
        exact hK _ _ (Below.refl _ _) rfl
        | 3, _ =>
        obtain rfl := Option.some.inj ho
        intro a1 w1 K hk hK
        have d26 : a1.tmps.getD 26 undef = .pointer (some ⟨g, j, none⟩) := hk.deps ⟨2, .data⟩ (by simp) rfl _ _ rfl rfl
        have c0 : w1.cell? ⟨g, j, none⟩ = some (.int .u64 ((p[j] ^^^ q[j] : Nat) : Int)) := Below.keeps hk.ext _ _ (by simp [go_sem, t1, t2, t4, c0', c1', c2', hxx])
        have c1 : w1.cell? ⟨G, 1, none⟩ = some (.slice (some ⟨bq, oq, none⟩) q.length cq) := Below.keeps hk.ext _ _ (by simp [go_sem, t1, t2, t4, c0', c1', c2', hxx])
        have c2 : w1.cell? ⟨bq, oq + j, none⟩ = some (.int .u64 (q[j] : Nat)) := Below.keeps hk.ext _ _ (by simp [go_sem, t1, t2, t4, c0', c1', c2', hxx])
        simp [Region.wanted, Oper.wp, Act.eval, go_sem, d26, c0, c1, c2, t1, t2, t4, c0', c1', c2', hxx]
        exact hK _ _ (Below.refl _ _) rfl
        | 4, _ =>
        obtain rfl := Option.some.inj ho
        intro a1 w1 K hk hK
        have e0 : a1.tmps.getD 0 undef = .pointer (some ⟨G, 0, none⟩) := hk.same 0 (by simp)
        simp [Region.wanted, Oper.wp, Act.eval, go_sem, e0, t1, t2, t4, c0', c1', c2', hxx]
        exact hK _ _ (Below.refl _ _) rfl
        | 5, _ =>
        obtain rfl := Option.some.inj ho
        intro a1 w1 K hk hK
        have d28 : a1.tmps.getD 28 undef = .pointer (some ⟨G, 0, none⟩) := hk.deps ⟨4, .data⟩ (by simp) rfl _ _ rfl rfl
        simp [Region.wanted, Oper.wp, Act.eval, go_sem, d28, t1, t2, t4, c0', c1', c2', hxx]
        exact hK _ _ (Below.refl _ _) rfl
        | 6, _ =>
        obtain rfl := Option.some.inj ho
        intro a1 w1 K hk hK
        have d29 : a1.tmps.getD 29 undef = .pointer (some ⟨G, 0, none⟩) := hk.deps ⟨5, .data⟩ (by simp) rfl _ _ rfl rfl
        simp [Region.wanted, Oper.wp, Act.eval, go_sem, d29, t1, t2, t4, c0', c1', c2', hxx]
        exact hK _ _ (Below.refl _ _) rfl
        | 7, _ =>
        obtain rfl := Option.some.inj ho
        intro a1 w1 K hk hK
        have d30 : a1.tmps.getD 30 undef = .pointer (some ⟨G, 1, none⟩) := hk.deps ⟨6, .data⟩ (by simp) rfl _ _ rfl rfl
        have c0 : w1.cell? ⟨g, j, none⟩ = some (.int .u64 ((p[j] ^^^ q[j] : Nat) : Int)) := Below.keeps hk.ext _ _ (by simp [go_sem, t1, t2, t4, c0', c1', c2', hxx])
        have c1 : w1.cell? ⟨G, 1, none⟩ = some (.slice (some ⟨bq, oq, none⟩) q.length cq) := Below.keeps hk.ext _ _ (by simp [go_sem, t1, t2, t4, c0', c1', c2', hxx])
        have c2 : w1.cell? ⟨bq, oq + j, none⟩ = some (.int .u64 (q[j] : Nat)) := Below.keeps hk.ext _ _ (by simp [go_sem, t1, t2, t4, c0', c1', c2', hxx])
        simp [Region.wanted, Oper.wp, Act.eval, go_sem, d30, c0, c1, c2, t1, t2, t4, c0', c1', c2', hxx]
        exact hK _ _ (Below.refl _ _) rfl
        | 8, _ =>
        obtain rfl := Option.some.inj ho
        intro a1 w1 K hk hK
        have e6 : a1.tmps.getD 6 undef = .int .i64 (j : Nat) := hk.same 6 (by simp)
        simp [Region.wanted, Oper.wp, Act.eval, go_sem, e6, t1, t2, t4, c0', c1', c2', hxx]
        exact hK _ _ (Below.refl _ _) rfl
        | 9, _ =>
        obtain rfl := Option.some.inj ho
        intro a1 w1 K hk hK
        have d31 : a1.tmps.getD 31 undef = .slice (some ⟨bq, oq, none⟩) q.length cq := hk.deps ⟨7, .data⟩ (by simp) rfl _ _ rfl rfl
        have d32 : a1.tmps.getD 32 undef = .int .i64 (j : Nat) := hk.deps ⟨8, .data⟩ (by simp) rfl _ _ rfl rfl
        simp [Region.wanted, Oper.wp, Act.eval, go_sem, d31, d32, t1, t2, t4, c0', c1', c2', hxx]
        exact hK _ _ (Below.refl _ _) rfl
        | 10, _ =>
        obtain rfl := Option.some.inj ho
        intro a1 w1 K hk hK
        have d33 : a1.tmps.getD 33 undef = .pointer (some ⟨bq, oq + j, none⟩) := hk.deps ⟨9, .data⟩ (by simp) rfl _ _ rfl rfl
        have c0 : w1.cell? ⟨g, j, none⟩ = some (.int .u64 ((p[j] ^^^ q[j] : Nat) : Int)) := Below.keeps hk.ext _ _ (by simp [go_sem, t1, t2, t4, c0', c1', c2', hxx])
        have c1 : w1.cell? ⟨G, 1, none⟩ = some (.slice (some ⟨bq, oq, none⟩) q.length cq) := Below.keeps hk.ext _ _ (by simp [go_sem, t1, t2, t4, c0', c1', c2', hxx])
        have c2 : w1.cell? ⟨bq, oq + j, none⟩ = some (.int .u64 (q[j] : Nat)) := Below.keeps hk.ext _ _ (by simp [go_sem, t1, t2, t4, c0', c1', c2', hxx])
        simp [Region.wanted, Oper.wp, Act.eval, go_sem, d33, c0, c1, c2, t1, t2, t4, c0', c1', c2', hxx]
        exact hK _ _ (Below.refl _ _) rfl
        | 11, _ =>
        obtain rfl := Option.some.inj ho
        intro a1 w1 K hk hK
        have d27 : a1.tmps.getD 27 undef = .int .u64 ((p[j] ^^^ q[j] : Nat) : Int) := hk.deps ⟨3, .data⟩ (by simp) rfl _ _ rfl rfl
        have d34 : a1.tmps.getD 34 undef = .int .u64 (q[j] : Nat) := hk.deps ⟨10, .data⟩ (by simp) rfl _ _ rfl rfl
        simp [Region.wanted, Oper.wp, Act.eval, go_sem, d27, d34, t1, t2, t4, c0', c1', c2', hxx]
        exact hK _ _ (Below.refl _ _) rfl
        | 12, _ =>
        obtain rfl := Option.some.inj ho
        intro a1 w1 K hk hK
        have d24 : a1.tmps.getD 24 undef = .slice (some ⟨g, 0, none⟩) k k := hk.deps ⟨0, .data⟩ (by simp) rfl _ _ rfl rfl
        have d25 : a1.tmps.getD 25 undef = .int .i64 (j : Nat) := hk.deps ⟨1, .data⟩ (by simp) rfl _ _ rfl rfl
        simp [Region.wanted, Oper.wp, Act.eval, go_sem, d24, d25, t1, t2, t4, c0', c1', c2', hxx]
        exact hK _ _ (Below.refl _ _) rfl
      · intro vs w3 hl hb3 hv
        match vs, hl with
        | [v0, v1, v2, v3, v4, v5, v6, v7, v8, v9, v10, v11, v12], _ =>
        obtain rfl : v0 = .slice (some ⟨g, 0, none⟩) k k := hv 0 (by omega)
        obtain rfl : v1 = .int .i64 (j : Nat) := hv 1 (by omega)
        obtain rfl : v2 = .pointer (some ⟨g, j, none⟩) := hv 2 (by omega)
        obtain rfl : v3 = .int .u64 ((p[j] ^^^ q[j] : Nat) : Int) := hv 3 (by omega)
        obtain rfl : v4 = .pointer (some ⟨G, 0, none⟩) := hv 4 (by omega)
        obtain rfl : v5 = .pointer (some ⟨G, 0, none⟩) := hv 5 (by omega)
        obtain rfl : v6 = .pointer (some ⟨G, 1, none⟩) := hv 6 (by omega)
        obtain rfl : v7 = .slice (some ⟨bq, oq, none⟩) q.length cq := hv 7 (by omega)
        obtain rfl : v8 = .int .i64 (j : Nat) := hv 8 (by omega)
        obtain rfl : v9 = .pointer (some ⟨bq, oq + j, none⟩) := hv 9 (by omega)
        obtain rfl : v10 = .int .u64 (q[j] : Nat) := hv 10 (by omega)
        obtain rfl : v11 = .int .u64 (p[j] : Nat) := hv 11 (by omega)
        obtain rfl : v12 = .pointer (some ⟨g, j, none⟩) := hv 12 (by omega)
        clear hv
        simp only [putAll, List.take_succ_cons, List.take_zero, List.drop_succ_cons, List.drop_zero, Act.put, List.setIfInBounds_toArray, List.set_cons_succ, List.set_cons_zero]
        have zf3 : w3.frozen? ⟨g, j, none⟩ = false := (World.frozen?_of_block (a := ⟨g, j, none⟩) (hb3.block g (by simp; exact hlg))).trans cf'
        have zc3 := Below.keeps hb3 _ _ c0'
        have HI3 := Lib.hid ((HI4.out.setRow HG.out HWg.out (fun b o n c e => by injection e with e; injection e with e; injection e with e; rw [← e]; exact kf') : InvR _ _ _ _ _ (w4.setCell ⟨g, j, none⟩ (.int .u64 ((p[j] ^^^ q[j] : Nat) : Int)))).below hb3)
        have HR3 := Lib.hid (hrow5.stays fun o ho => (hb3.block g (by simp; exact hlg)).trans ho)
        have HK3 := Lib.hid ((HK4.out.setNew (x := .int .u64 ((p[j] ^^^ q[j] : Nat) : Int)) (j := j) (Nat.le_of_eq hg)).trans (KeepR.below hb3))
        have Hkf := Lib.hid kf'
        clear hb3 hrow5 c0' c1' c2' cf' k0' k1' hz0 hzf
        go_wp2_with fail
        go_roundw
        case rel => exact ⟨j + 1, by omega, by rw [HW.out], by have := HR3.out.set (by rw [List.length_take]; omega) p[j]; rw [List.length_take, Nat.min_eq_left (by omega)] at this; rw [List.take_succ_eq_append_getElem hlp]; exact this, HI3.out.setRow HG.out HWg.out (fun b o n c e => by injection e with e; injection e with e; injection e with e; rw [← e]; exact kf'), HK3.out.setNew (Nat.le_of_eq hg)⟩
        case measure => rw [intOf_of' HW.out, intOf_of' rfl]; omega
    · obtain rfl : j = k := by omega
      have t1 : ¬ (j : Int) < j := by omega
      rw [List.drop_of_length_le (by have := HD.out.1; omega)] at hI
      rw [List.take_of_length_le (by have := HD.out.1; omega)] at hrow
      have HI := Lib.hid hI
      have HP := Lib.hid (hrow.pt HD.out.1)
      clear hrow hI
      go_wp2_with fail
      go_ret
      exact ⟨g, rfl, HP.out, HI.out, HKw.out⟩
set_option maxRecDepth 8000 in
set_option maxHeartbeats 4000000 in
theorem rPoint_none (W w : World) (G k : Nat) (p rest : List Nat) (hi : InvR W G (Pk.lebP p (Pk.zeros k) ++ rest) (.slice none 0 0) none w) (hp : p.length = k) (h1 : 1 ≤ k) (h16 : k ≤ 16) (op : ∀ x ∈ p, x < 2 ^ 64) (hr : rest.length ≤ 50000) :
    Calls Tryz.prog 86 #[.pointer (some ⟨G, 0, none⟩), .int .i64 (k : Nat)] w fun e w' => ∃ g, e = .returned (.slice (some ⟨g, 0, none⟩) k k) ∧ PtNew w' (.slice (some ⟨g, 0, none⟩) k k) p ∧ InvR W G rest (.slice none 0 0) none w' ∧ KeepR G w w' := by
  have HD := Lib.hid (And.intro hp (And.intro h1 (And.intro h16 (And.intro op hr))))
  have HI0 := Lib.hid hi
  have hql : (Pk.zeros k).length = k := by simp [Pk.zeros]
  have hq0 : ∀ j (h : j < (Pk.zeros k).length), (Pk.zeros k)[j] = 0 := by intro j h; simp [Pk.zeros]
  generalize Pk.zeros k = q at *
  clear hi hp h1 h16 op hr
  go_enter Tryz.func86, Tryz.ntmps86
  go_wp2_with ((at_make; refine wpList_make_row rfl _ _ rfl k rfl rfl ?_ ?_))
  · have := HD.out.2.2.1; omega
  intro w1 hz1 hb1
  obtain ⟨g, hg⟩ : ∃ g, w.heap.size = g := ⟨_, rfl⟩
  rw [hg] at hz1
  have HZ1 := Lib.hid hz1
  have HI1 := Lib.hid (HI0.out.below hb1)
  have HK1 := Lib.hid (KeepR.below (G := G) hb1)
  have HG := Lib.hid (show g ≠ G by have := HI0.out.lt; omega)
  have HWg := Lib.hid (show W.heap.size ≤ g by have := HI0.out.bel.size; omega)
  clear hz1 hb1
  simp only [hg]
  go_wp2_with fail
  go_loopw [11] (fun i wr => ∃ (j : Nat), j ≤ k ∧ i = .int .i64 j ∧ PtRow wr g k (p.take j) ∧ InvR W G (Pk.lebP (p.drop j) (q.drop j) ++ rest) (.slice none 0 0) none wr ∧ KeepR G w wr) (fun i _ => k - (intOf i).toNat)
  case atStart => exact ⟨0, Nat.zero_le _, rfl, HZ1.out, HI1.out, HK1.out⟩
  case round =>
    obtain ⟨j, hj, rfl, hrow, hI, hkw⟩ := hrel
    have HKw := Lib.hid hkw
    have HRow := Lib.hid hrow
    clear hkw
    by_cases hlt : j < k
    · have hlp : j < p.length := by have := HD.out.1; omega
      have hlq : j < q.length := by omega
      rw [Pk.lebP_cons p q j hlp hlq, List.append_assoc] at hI
      have t1 : (j : Int) < k := by omega
      have t2 : (0 : Int) ≤ (j : Int) := by omega
      have hx0 : p[j] ^^^ q[j] = p[j] := by rw [hq0 j hlq, Nat.xor_zero]
      rw [hx0] at hI
      have HI := Lib.hid hI
      have HX := Lib.hid (HD.out.2.2.2.1 _ (List.getElem_mem hlp))
      have HLen := Lib.hid (show (Pk.lebP (p.drop (j + 1)) (q.drop (j + 1)) ++ rest).length ≤ 100000 by
        have h1 := Pk.lebP_length (p.drop (j + 1)) (q.drop (j + 1))
        have h2 : (p.drop (j + 1)).length ≤ p.length := by rw [List.length_drop]; omega
        have := HD.out.1
        have := HD.out.2.2.1
        have := HD.out.2.2.2.2
        rw [List.length_append]; omega)
      have HW := Lib.hid (show wrap64 ((j : Int) + 1) = ((j + 1 : Nat) : Int) by have := HD.out.2.2.1; unfold wrap64; omega)
      clear hrow hI
      go_wp2_with fail
      refine (rNumber_any W _ G p[j] _ _ none HI.out HX.out HLen.out).mono ?_
      rintro e w4 ⟨rfl, hI4, hk4⟩
      have hrow4 : PtRow w4 g k (p.take j) := HRow.out.stays fun o ho => hk4.1 g o ho HG.out
      obtain ⟨⟨z0, hz0⟩, hzf⟩ := hrow4.cell j hlt
      have hlg : g < w4.heap.size := hrow4.lt
      have HR5 := Lib.hid hrow4
      have HK4 := Lib.hid (HKw.out.trans hk4)
      have hlG : G < w4.heap.size := hI4.lt
      have k0' : (w4.setCell ⟨g, j, none⟩ (.int .u64 (p[j] : Nat))).cell? ⟨G, 1, none⟩ = some (.slice none 0 0) := (cell_set_block _ (fun e => HG.out e.symm)).trans (by
        obtain ⟨vb, hblk, hrd, hl, hb, hGG⟩ := hI4
        exact (cells_of_two hblk).2.1)
      have HI4 := Lib.hid hI4
      clear hI4 hk4 hrow4
      go_wp2_with fail
      go_roundw
      case rel => exact ⟨j + 1, by omega, by rw [HW.out], by have := HR5.out.set (by rw [List.length_take]; omega) p[j]; rw [List.length_take, Nat.min_eq_left (by omega)] at this; rw [List.take_succ_eq_append_getElem hlp]; exact this, HI4.out.setRow HG.out HWg.out (fun b o n c e => by cases e), HK4.out.setNew (Nat.le_of_eq hg)⟩
      case measure => rw [intOf_of' HW.out, intOf_of' rfl]; omega
    · obtain rfl : j = k := by omega
      have t1 : ¬ (j : Int) < j := by omega
      rw [List.drop_of_length_le (by have := HD.out.1; omega)] at hI
      rw [List.take_of_length_le (by have := HD.out.1; omega)] at hrow
      have HI := Lib.hid hI
      have HP := Lib.hid (hrow.pt HD.out.1)
      clear hrow hI
      go_wp2_with fail
      go_ret
      exact ⟨g, rfl, HP.out, HI.out, HKw.out⟩

theorem InvR.rise {W w : World} {G : Nat} {rest p : List Nat} {vl vp : Value} {last : Option (List Nat)} (h : InvR W G rest vl last w) (hp : PtNew w vp p) : InvR W G rest vp (some p) (w.setCell ⟨G, 1, none⟩ vp) := by
  obtain ⟨vb, h1, h2, h3, h4, h5⟩ := h
  exact ⟨vb, two_setCell h1, h2, PtNew.keepR hp h1 (by decide) KeepR.set, h4.setCell h5 _, h5⟩

set_option maxRecDepth 8000 in
set_option maxHeartbeats 4000000 in
theorem rises_any (W w : World) (G : Nat) (p rest : List Nat) (vl vp : Value) (last : Option (List Nat)) (hi : InvR W G rest vl last w) (hp : PtNew w vp p) (h1 : 1 ≤ p.length) (h16 : p.length ≤ 16) (op : ∀ x ∈ p, x < 2 ^ 64)
    (hq : ∀ q, last = some q → q.length = p.length ∧ (∀ x ∈ q, x < 2 ^ 64) ∧ Zb.cmp q p < 0) :
    Calls Tryz.prog 88 #[.pointer (some ⟨G, 0, none⟩), vp] w fun e w' => e = .returned (.tuple #[]) ∧ InvR W G rest vp (some p) w' ∧ KeepR G w w' := by
  have HI := Lib.hid hi
  obtain ⟨Ap, cp, rfl, _⟩ := RdU.point hp.rd
  have HP := Lib.hid hp
  obtain ⟨vb, hblk, hrd, hl, hb, hG⟩ := hi
  obtain ⟨k0, k1, kf⟩ := cells_of_two hblk
  have hlG := lt_of_block hblk
  cases last with
  | none =>
    simp only at hl
    subst hl
    clear hblk hrd hb hG hp hq
    go_enter Tryz.func88, Tryz.ntmps88
    go_wp2_with fail
    go_end0
    exact ⟨rfl, HI.out.rise HP.out, KeepR.set⟩
  | some q =>
    obtain ⟨q1, q2, q3⟩ := hq q rfl
    have HC := Lib.hid (fun (h : RdU w vl (pti q)) => zCmp_any q p vl _ w h HP.out.rd q1 (by omega) (by omega) q2 op)
    have HL := Lib.hid (show PtNew w vl q from hl)
    obtain ⟨hv1, bq, oq, cq, curq, frq, rfl, hvb⟩ := hl
    have q4 : Zb.cmp q p < 0 := q3
    generalize Zb.cmp q p = z at *
    clear hblk hrd hb hG hp hq hv1 hvb q1 q2 q3 op
    go_enter Tryz.func88, Tryz.ntmps88
    go_wp2_with fail
    refine (HC.out HL.out.rd).mono ?_
    rintro e w1 ⟨rfl, rfl⟩
    go_wp2_with fail
    refine (must_true 9 _).mono ?_
    rintro e w2 ⟨rfl, rfl⟩
    go_wp2_with fail
    go_end0
    exact ⟨rfl, HI.out.rise HP.out, KeepR.set⟩
end Go.Proofs.YtdkomhmciihkiaaGreat
/-! PkW3 -/
namespace Go.Proofs.YtdkomhmciihkiaaGreat
open Go.RowKit
set_option linter.unusedVariables false
set_option linter.unusedSimpArgs false

end Go.Proofs.YtdkomhmciihkiaaGreat
/-! PkR3 -/
namespace Go.Proofs.YtdkomhmciihkiaaGreat
open Go.RowKit
set_option linter.unusedVariables false
set_option linter.unusedSimpArgs false

theorem InvR.block {W w : World} {G : Nat} {rest : List Nat} {vl : Value} {last : Option (List Nat)} (h : InvR W G rest vl last w) : ∃ c, w.heap[G]? = some (.cells c 143 (0, 0)) := let ⟨_, h, _⟩ := h; ⟨_, h⟩
theorem PtNew.over {w w' : World} {R : Nat} {u : Value} {p : List Nat} (h : PtNew w u p) (hR : w.heap[R]? = some Zcells) (hs : ∀ k, k ≠ R → w'.heap[k]? = w.heap[k]?) : PtNew w' u p :=
  h.keepBlock fun b cur fr hb => hs b (by unfold Zcells at hR; exact ne_type hb hR (by decide))
theorem InvR.over {W w w' : World} {G R : Nat} {rest : List Nat} {vl : Value} {last : Option (List Nat)} (h : InvR W G rest vl last w) (hR : w.heap[R]? = some Zcells) (hs : ∀ k, k ≠ R → w'.heap[k]? = w.heap[k]?) (hb : Below W.heap.size w w') : InvR W G rest vl last w' := by
  obtain ⟨vb, h1, h2, h3, h4, h5⟩ := h
  refine ⟨vb, (hs _ (by unfold Zcells at hR; exact ne_type h1 hR (by decide))).trans h1, h2, ?_, h4.trans hb, h5⟩
  cases last with
  | none => exact h3
  | some p => exact PtNew.over h3 hR hs
theorem KeepR.over {w w1 w' : World} {G R : Nat} (h : KeepR G w w1) (hs : ∀ k, k ≠ R → w'.heap[k]? = w1.heap[k]?) (hz : w1.heap.size ≤ w'.heap.size) (hw : w.heap.size ≤ R) : KeepR G w w' :=
  ⟨fun b o h1 h2 => (hs b (by have := lt_of_block h1; omega)).trans (h.1 b o h1 h2), Nat.le_trans h.2 hz⟩
theorem rdPoint_any (W w : World) (G : Nat) (p rest : List Nat) (vl : Value) (last : Option (List Nat)) (hi : InvR W G (Pk.lebP p (last.getD (Pk.zeros p.length)) ++ rest) vl last w) (h1 : 1 ≤ p.length) (h16 : p.length ≤ 16) (op : ∀ x ∈ p, x < 2 ^ 64) (hq : ∀ q, last = some q → q.length = p.length ∧ (∀ x ∈ q, x < 2 ^ 64) ∧ Zb.cmp q p < 0) (hr : rest.length ≤ 50000) :
    Calls Tryz.prog 86 #[.pointer (some ⟨G, 0, none⟩), .int .i64 (p.length : Nat)] w fun e w' => ∃ g, e = .returned (.slice (some ⟨g, 0, none⟩) p.length p.length) ∧ PtNew w' (.slice (some ⟨g, 0, none⟩) p.length p.length) p ∧ InvR W G rest vl last w' ∧ KeepR G w w' := by
  cases last with
  | none =>
    obtain rfl : vl = .slice none 0 0 := let ⟨_, _, _, h, _⟩ := hi; h
    exact rPoint_none W w G p.length p rest hi rfl h1 h16 op hr
  | some q => exact rPoint_last W w G p.length p q rest vl hi rfl (hq q rfl).1 h1 h16 op (hq q rfl).2.1 hr

end Go.Proofs.YtdkomhmciihkiaaGreat
