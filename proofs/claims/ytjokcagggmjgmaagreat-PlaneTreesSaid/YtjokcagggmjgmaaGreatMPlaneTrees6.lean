/-
  Texts that the proof of PlaneTrees leans on, part 6: contracts of functions, and plain laws.
-/
import Derived.Test.YtjokcagggmjgmaaGreatMPlaneTrees5
/-! RefW -/
namespace Go.Proofs.YtjokcagggmjgmaaGreat
open Go.RowKit
set_option linter.unusedVariables false
set_option linter.unusedSimpArgs false
set_option maxRecDepth 100000

/-- a shape's rows, read -/
def PtR (w : World) : PtS' := fun u pl s => RdU w u (pti s.pre) ∧ Sl w pl (s.pl.map fun (x : Nat) => Value.int .i64 (x : Nat))
theorem PtK.rd {W0 W w : World} (hb : Below W0.heap.size W0 w) : ∀ u p s, PtK W0 W w u p s → PtR w u p s := fun u p s h => ⟨h.1.elim (·.below hb) (·.rd), h.2.rd⟩
theorem PtR.below {w w' : World} (hb : Below w.heap.size w w') : ∀ u p s, PtR w u p s → PtR w' u p s := fun u p s h => ⟨h.1.below hb, h.2.below hb⟩
set_option maxHeartbeats 2000000 in
theorem rSameShapes (w : World) (x y : Value) (l : List Sh) (hx : RdS (PtR w) w x l) (hy : RdS (PtR w) w y l) (hl : l.length ≤ 100000) (hs : ∀ s ∈ l, s.pre.length ≤ 100 ∧ s.pl.length ≤ 100000) :
    Calls Tryz.prog 35 #[x, y] w fun e w' => e = .returned (.bool true) ∧ Below w.heap.size w w' := by
  obtain ⟨A1, c1, rfl, hx⟩ := hx
  obtain ⟨A2, c2, rfl, hy⟩ := hy
  have HX := Lib.hid (And.intro hx hy)
  have HL := Lib.hid (And.intro hl hs)
  have hn : ((l.length : Int) != (l.length : Int)) = false := by simp
  clear hx hy hl hs
  go_enter Tryz.func35, Tryz.ntmps35
  go_wp2_with fail
  go_loopw [5] (fun iv wr => ∃ j : Nat, j ≤ l.length ∧ iv = .int .i64 (j : Nat) ∧ Below w.heap.size w wr) (fun iv _ => l.length - (intOf iv).toNat)
  case atStart => exact ⟨0, Nat.zero_le _, rfl, (by repeat (first | exact Below.refl _ _ | (refine Below.drew ?_) | (refine below_drewN' ?_ _) | (refine below_alloc' ?_ _) | (refine Below.setCell ?_ (by first | exact Nat.le_refl _ | (simp; done) | (simp; omega)) _)))⟩
  case round =>
    obtain ⟨j, hj, rfl, hb⟩ := hrel
    have HB := Lib.hid hb
    by_cases hlt : j < l.length
    · have h3 : (j : Int) < (l.length : Int) := by omega
      have h5 : (0 : Int) ≤ (j : Int) := by omega
      have HW := Lib.hid (show wrap64 ((j : Int) + 1) = ((j + 1 : Nat) : Int) by have := HL.out.1; unfold wrap64; omega)
      obtain ⟨b1, rfl, hc1⟩ := HX.out.1 (by omega)
      obtain ⟨b2, rfl, hc2⟩ := HX.out.2 (by omega)
      obtain ⟨u1, pl1, p0, p1, p2, p3, p4, pt1⟩ := hc1 j hlt
      obtain ⟨u2, pl2, q0, q1, q2, q3, q4, pt2⟩ := hc2 j hlt
      have hms := HL.out.2 _ (List.getElem_mem hlt)
      replace p0 := Below.keeps hb _ _ p0
      replace p1 := Below.keeps hb _ _ p1
      replace p2 := Below.keeps hb _ _ p2
      replace p3 := Below.keeps hb _ _ p3
      replace p4 := Below.keeps hb _ _ p4
      replace q0 := Below.keeps hb _ _ q0
      replace q1 := Below.keeps hb _ _ q1
      replace q2 := Below.keeps hb _ _ q2
      replace q3 := Below.keeps hb _ _ q3
      replace q4 := Below.keeps hb _ _ q4
      have HSS := Lib.hid (fun w' (hb2 : Below wr.heap.size wr w') => rSameShape w' _ _ l[j] ⟨u1, pl1, rfl, (pt1.1.below hb).below hb2, (pt1.2.below hb).below hb2⟩ ⟨u2, pl2, rfl, (pt2.1.below hb).below hb2, (pt2.2.below hb).below hb2⟩ hms.1 hms.2)
      have hl1 : b1 < wr.heap.size := World.block_lt_of_cell? wr _ p0
      have hl2 : b2 < wr.heap.size := World.block_lt_of_cell? wr _ q0
      clear pt1 pt2 hms hc1 hc2 hb
      generalize l[j] = s at *
      go_wp2_with fail
      refine wp_region_vals 9 [fun z9 _ => z9 = .slice (some ⟨b1, 0, none⟩) l.length c1,
        fun z9 _ => z9 = .int .i64 (j : Nat),
        fun z9 _ => z9 = .pointer (some ⟨b1, j * 5, none⟩),
        fun z9 _ => z9 = .agg #[.int .i64 s.lv, u1, pl1, .bool s.dense, .int .u64 (s.v : Nat)],
        fun z9 _ => z9 = .slice (some ⟨b2, 0, none⟩) l.length c2,
        fun z9 _ => z9 = .int .i64 (j : Nat),
        fun z9 _ => z9 = .pointer (some ⟨b2, j * 5, none⟩),
        fun z9 _ => z9 = .agg #[.int .i64 s.lv, u2, pl2, .bool s.dense, .int .u64 (s.v : Nat)],
        fun z9 _ => z9 = .bool true]
        (by kernel_rfl) (by kernel_rfl) (by kernel_rfl) (by kernel_rfl) ?_ ?_ ?_
      · intro V hV v w1 w2 h hb
        simp only [List.mem_cons, List.not_mem_nil, or_false] at hV
        rcases hV with rfl | rfl | rfl | rfl | rfl | rfl | rfl | rfl | rfl
        all_goals first | exact h | (exact h)
      · intro iq oq hiq hoq
        match iq, hiq with
        | 0, _ =>
        obtain rfl := Option.some.inj hoq
        intro a1 w1 K hk hK
        have e0 : a1.tmps.getD 0 undef = .slice (some ⟨b1, 0, none⟩) l.length c1 := hk.same 0 (by simp)
        simp [Region.wanted, Oper.wp, Act.eval, go_sem, e0, p0, p1, p2, p3, p4, q0, q1, q2, q3, q4, hl1, hl2, h3, h5]
        exact hK _ _ (Below.refl _ _) rfl
        | 1, _ =>
        obtain rfl := Option.some.inj hoq
        intro a1 w1 K hk hK
        have e5 : a1.tmps.getD 5 undef = .int .i64 (j : Nat) := hk.same 5 (by simp)
        simp [Region.wanted, Oper.wp, Act.eval, go_sem, e5, p0, p1, p2, p3, p4, q0, q1, q2, q3, q4, hl1, hl2, h3, h5]
        exact hK _ _ (Below.refl _ _) rfl
        | 2, _ =>
        obtain rfl := Option.some.inj hoq
        intro a1 w1 K hk hK
        have d17 : a1.tmps.getD 17 undef = .slice (some ⟨b1, 0, none⟩) l.length c1 := hk.deps ⟨0, .data⟩ (by simp) rfl _ _ rfl rfl
        have d18 : a1.tmps.getD 18 undef = .int .i64 (j : Nat) := hk.deps ⟨1, .data⟩ (by simp) rfl _ _ rfl rfl
        simp [Region.wanted, Oper.wp, Act.eval, go_sem, d17, d18, p0, p1, p2, p3, p4, q0, q1, q2, q3, q4, hl1, hl2, h3, h5]
        exact hK _ _ (Below.refl _ _) rfl
        | 3, _ =>
        obtain rfl := Option.some.inj hoq
        intro a1 w1 K hk hK
        have d19 : a1.tmps.getD 19 undef = .pointer (some ⟨b1, j * 5, none⟩) := hk.deps ⟨2, .data⟩ (by simp) rfl _ _ rfl rfl
        have c0 : w1.cell? ⟨b1, j * 5, none⟩ = some (.int .i64 s.lv) := Below.keeps hk.ext _ _ (by simp [go_sem, p0, p1, p2, p3, p4, q0, q1, q2, q3, q4, hl1, hl2, h3, h5])
        have c1 : w1.cell? ⟨b1, j * 5 + 1, none⟩ = some (u1) := Below.keeps hk.ext _ _ (by simp [go_sem, p0, p1, p2, p3, p4, q0, q1, q2, q3, q4, hl1, hl2, h3, h5])
        have c2 : w1.cell? ⟨b1, j * 5 + 2, none⟩ = some (pl1) := Below.keeps hk.ext _ _ (by simp [go_sem, p0, p1, p2, p3, p4, q0, q1, q2, q3, q4, hl1, hl2, h3, h5])
        have c3 : w1.cell? ⟨b1, j * 5 + 3, none⟩ = some (.bool s.dense) := Below.keeps hk.ext _ _ (by simp [go_sem, p0, p1, p2, p3, p4, q0, q1, q2, q3, q4, hl1, hl2, h3, h5])
        have c4 : w1.cell? ⟨b1, j * 5 + 4, none⟩ = some (.int .u64 (s.v : Nat)) := Below.keeps hk.ext _ _ (by simp [go_sem, p0, p1, p2, p3, p4, q0, q1, q2, q3, q4, hl1, hl2, h3, h5])
        have c5 : w1.cell? ⟨b2, j * 5, none⟩ = some (.int .i64 s.lv) := Below.keeps hk.ext _ _ (by simp [go_sem, p0, p1, p2, p3, p4, q0, q1, q2, q3, q4, hl1, hl2, h3, h5])
        have c6 : w1.cell? ⟨b2, j * 5 + 1, none⟩ = some (u2) := Below.keeps hk.ext _ _ (by simp [go_sem, p0, p1, p2, p3, p4, q0, q1, q2, q3, q4, hl1, hl2, h3, h5])
        have c7 : w1.cell? ⟨b2, j * 5 + 2, none⟩ = some (pl2) := Below.keeps hk.ext _ _ (by simp [go_sem, p0, p1, p2, p3, p4, q0, q1, q2, q3, q4, hl1, hl2, h3, h5])
        have c8 : w1.cell? ⟨b2, j * 5 + 3, none⟩ = some (.bool s.dense) := Below.keeps hk.ext _ _ (by simp [go_sem, p0, p1, p2, p3, p4, q0, q1, q2, q3, q4, hl1, hl2, h3, h5])
        have c9 : w1.cell? ⟨b2, j * 5 + 4, none⟩ = some (.int .u64 (s.v : Nat)) := Below.keeps hk.ext _ _ (by simp [go_sem, p0, p1, p2, p3, p4, q0, q1, q2, q3, q4, hl1, hl2, h3, h5])
        simp [Region.wanted, Oper.wp, Act.eval, go_sem, d19, c0, c1, c2, c3, c4, c5, c6, c7, c8, c9, p0, p1, p2, p3, p4, q0, q1, q2, q3, q4, hl1, hl2, h3, h5]
        exact hK _ _ (Below.refl _ _) rfl
        | 4, _ =>
        obtain rfl := Option.some.inj hoq
        intro a1 w1 K hk hK
        have e1 : a1.tmps.getD 1 undef = .slice (some ⟨b2, 0, none⟩) l.length c2 := hk.same 1 (by simp)
        simp [Region.wanted, Oper.wp, Act.eval, go_sem, e1, p0, p1, p2, p3, p4, q0, q1, q2, q3, q4, hl1, hl2, h3, h5]
        exact hK _ _ (Below.refl _ _) rfl
        | 5, _ =>
        obtain rfl := Option.some.inj hoq
        intro a1 w1 K hk hK
        have e5 : a1.tmps.getD 5 undef = .int .i64 (j : Nat) := hk.same 5 (by simp)
        simp [Region.wanted, Oper.wp, Act.eval, go_sem, e5, p0, p1, p2, p3, p4, q0, q1, q2, q3, q4, hl1, hl2, h3, h5]
        exact hK _ _ (Below.refl _ _) rfl
        | 6, _ =>
        obtain rfl := Option.some.inj hoq
        intro a1 w1 K hk hK
        have d21 : a1.tmps.getD 21 undef = .slice (some ⟨b2, 0, none⟩) l.length c2 := hk.deps ⟨4, .data⟩ (by simp) rfl _ _ rfl rfl
        have d22 : a1.tmps.getD 22 undef = .int .i64 (j : Nat) := hk.deps ⟨5, .data⟩ (by simp) rfl _ _ rfl rfl
        simp [Region.wanted, Oper.wp, Act.eval, go_sem, d21, d22, p0, p1, p2, p3, p4, q0, q1, q2, q3, q4, hl1, hl2, h3, h5]
        exact hK _ _ (Below.refl _ _) rfl
        | 7, _ =>
        obtain rfl := Option.some.inj hoq
        intro a1 w1 K hk hK
        have d23 : a1.tmps.getD 23 undef = .pointer (some ⟨b2, j * 5, none⟩) := hk.deps ⟨6, .data⟩ (by simp) rfl _ _ rfl rfl
        have c0 : w1.cell? ⟨b1, j * 5, none⟩ = some (.int .i64 s.lv) := Below.keeps hk.ext _ _ (by simp [go_sem, p0, p1, p2, p3, p4, q0, q1, q2, q3, q4, hl1, hl2, h3, h5])
        have c1 : w1.cell? ⟨b1, j * 5 + 1, none⟩ = some (u1) := Below.keeps hk.ext _ _ (by simp [go_sem, p0, p1, p2, p3, p4, q0, q1, q2, q3, q4, hl1, hl2, h3, h5])
        have c2 : w1.cell? ⟨b1, j * 5 + 2, none⟩ = some (pl1) := Below.keeps hk.ext _ _ (by simp [go_sem, p0, p1, p2, p3, p4, q0, q1, q2, q3, q4, hl1, hl2, h3, h5])
        have c3 : w1.cell? ⟨b1, j * 5 + 3, none⟩ = some (.bool s.dense) := Below.keeps hk.ext _ _ (by simp [go_sem, p0, p1, p2, p3, p4, q0, q1, q2, q3, q4, hl1, hl2, h3, h5])
        have c4 : w1.cell? ⟨b1, j * 5 + 4, none⟩ = some (.int .u64 (s.v : Nat)) := Below.keeps hk.ext _ _ (by simp [go_sem, p0, p1, p2, p3, p4, q0, q1, q2, q3, q4, hl1, hl2, h3, h5])
        have c5 : w1.cell? ⟨b2, j * 5, none⟩ = some (.int .i64 s.lv) := Below.keeps hk.ext _ _ (by simp [go_sem, p0, p1, p2, p3, p4, q0, q1, q2, q3, q4, hl1, hl2, h3, h5])
        have c6 : w1.cell? ⟨b2, j * 5 + 1, none⟩ = some (u2) := Below.keeps hk.ext _ _ (by simp [go_sem, p0, p1, p2, p3, p4, q0, q1, q2, q3, q4, hl1, hl2, h3, h5])
        have c7 : w1.cell? ⟨b2, j * 5 + 2, none⟩ = some (pl2) := Below.keeps hk.ext _ _ (by simp [go_sem, p0, p1, p2, p3, p4, q0, q1, q2, q3, q4, hl1, hl2, h3, h5])
        have c8 : w1.cell? ⟨b2, j * 5 + 3, none⟩ = some (.bool s.dense) := Below.keeps hk.ext _ _ (by simp [go_sem, p0, p1, p2, p3, p4, q0, q1, q2, q3, q4, hl1, hl2, h3, h5])
        have c9 : w1.cell? ⟨b2, j * 5 + 4, none⟩ = some (.int .u64 (s.v : Nat)) := Below.keeps hk.ext _ _ (by simp [go_sem, p0, p1, p2, p3, p4, q0, q1, q2, q3, q4, hl1, hl2, h3, h5])
        simp [Region.wanted, Oper.wp, Act.eval, go_sem, d23, c0, c1, c2, c3, c4, c5, c6, c7, c8, c9, p0, p1, p2, p3, p4, q0, q1, q2, q3, q4, hl1, hl2, h3, h5]
        exact hK _ _ (Below.refl _ _) rfl
        | 8, _ =>
        obtain rfl := Option.some.inj hoq
        intro a1 w1 K hk hK
        have d20 : a1.tmps.getD 20 undef = .agg #[.int .i64 s.lv, u1, pl1, .bool s.dense, .int .u64 (s.v : Nat)] := hk.deps ⟨3, .data⟩ (by simp) rfl _ _ rfl rfl
        have d24 : a1.tmps.getD 24 undef = .agg #[.int .i64 s.lv, u2, pl2, .bool s.dense, .int .u64 (s.v : Nat)] := hk.deps ⟨7, .data⟩ (by simp) rfl _ _ rfl rfl
        simp [Region.wanted, Oper.wp, Act.eval, go_sem, d20, d24, p0, p1, p2, p3, p4, q0, q1, q2, q3, q4, hl1, hl2, h3, h5]
        refine (HSS.out _ (below_trans (by repeat (first | exact Below.refl _ _ | (refine Below.drew ?_) | (refine below_drewN' ?_ _) | (refine below_alloc' ?_ _) | (refine Below.setCell ?_ (by first | exact Nat.le_refl _ | (simp; done) | (simp; omega)) _))) hk.ext)).mono ?_
        rintro e w9 ⟨rfl, hb9⟩
        exact hK _ _ hb9 rfl
      · intro vs w3 hl hb3 hv
        match vs, hl with
        | [v0, v1, v2, v3, v4, v5, v6, v7, v8], _ =>
        obtain rfl : v0 = .slice (some ⟨b1, 0, none⟩) l.length c1 := hv 0 (by omega)
        obtain rfl : v1 = .int .i64 (j : Nat) := hv 1 (by omega)
        obtain rfl : v2 = .pointer (some ⟨b1, j * 5, none⟩) := hv 2 (by omega)
        obtain rfl : v3 = .agg #[.int .i64 s.lv, u1, pl1, .bool s.dense, .int .u64 (s.v : Nat)] := hv 3 (by omega)
        obtain rfl : v4 = .slice (some ⟨b2, 0, none⟩) l.length c2 := hv 4 (by omega)
        obtain rfl : v5 = .int .i64 (j : Nat) := hv 5 (by omega)
        obtain rfl : v6 = .pointer (some ⟨b2, j * 5, none⟩) := hv 6 (by omega)
        obtain rfl : v7 = .agg #[.int .i64 s.lv, u2, pl2, .bool s.dense, .int .u64 (s.v : Nat)] := hv 7 (by omega)
        obtain rfl : v8 = .bool true := hv 8 (by omega)
        clear hv
        simp only [putAll, List.take_succ_cons, List.take_zero, List.drop_succ_cons, List.drop_zero, Act.put, List.setIfInBounds_toArray, List.set_cons_succ, List.set_cons_zero]
        have hb4 : Below wr.heap.size wr w3 := below_trans (by repeat (first | exact Below.refl _ _ | (refine Below.drew ?_) | (refine below_drewN' ?_ _) | (refine below_alloc' ?_ _) | (refine Below.setCell ?_ (by first | exact Nat.le_refl _ | (simp; done) | (simp; omega)) _))) hb3
        have HB4 := Lib.hid (HB.out.trans (hb4.mono HB.out.size))
        clear hb3 hb4
        go_wp2_with fail
        go_roundw
        case rel => exact ⟨j + 1, by omega, (by first | rw [HW.out] | rfl | simp), HB4.out⟩
        case measure => (first | (rw [intOf_of' HW.out, intOf_of' rfl]; omega) | (simp [intOf]; omega) | (simp [intOf] <;> omega))
    · have h3 : ¬ (j : Int) < (l.length : Int) := by omega
      clear hb
      go_wp2_with fail
      go_ret
      exact ⟨rfl, HB.out⟩
end Go.Proofs.YtjokcagggmjgmaaGreat
/-! RefX -/
namespace Go.Proofs.YtjokcagggmjgmaaGreat
open Go.RowKit
set_option linter.unusedVariables false
set_option linter.unusedSimpArgs false
set_option maxRecDepth 100000

/-- the sums that are being made: the block's cells -/
def SB (w : World) (G : Nat) (S : Sm) : Prop := w.heap[G]? = some (.cells #[.int .u64 (S.n : Nat), .int .u64 (S.s : Nat), .int .u64 (S.mn : Nat), .int .u64 (S.mx : Nat)] 159 (0, 0))
theorem SB.cell {w : World} {G : Nat} {S : Sm} (h : SB w G S) (i : Nat) : w.cell? ⟨G, i, none⟩ = (#[.int .u64 (S.n : Nat), .int .u64 (S.s : Nat), .int .u64 (S.mn : Nat), .int .u64 (S.mx : Nat)] : Array Value)[i]? := by
  unfold SB at h; simp [World.cell?, h]
theorem SB.thaw {w : World} {G : Nat} {S : Sm} (h : SB w G S) (i : Nat) : w.frozen? ⟨G, i, none⟩ = false := by unfold SB at h; simp [World.frozen?, h]
/-- one more -/
def Sm.step (S : Sm) (j v : Nat) : Sm := ⟨(S.n + 1) % 2 ^ 64, (S.s + v) % 2 ^ 64, if j = 0 ∨ v < S.mn then v else S.mn, if S.mx < v then v else S.mx⟩
theorem sums_take {l : List En} (hv : ∀ e ∈ l, e.v < 2 ^ 64) (j : Nat) (hj : j < l.length) : sumsL (l.take (j + 1)) = (sumsL (l.take j)).step j l[j].v := by
  rw [← List.take_append_getElem hj]
  by_cases h0 : j = 0
  · subst h0
    have := hv _ (List.getElem_mem hj)
    simp only [List.take_zero, List.nil_append]
    show Sm.of l[0].v = Sm.step ⟨0, 0, 0, 0⟩ 0 l[0].v
    unfold Sm.step Sm.of
    simp
    omega
  · rw [sumsL_append (List.ne_nil_of_length_pos (by rw [List.length_take]; omega)) (by simp)]
    show (sumsL (l.take j)).add (Sm.of l[j].v) = _
    unfold Sm.step Sm.add Sm.of
    simp only [Sm.mk.injEq, true_and]
    refine ⟨?_, ?_⟩
    · split <;> omega
    · split <;> omega
set_option maxHeartbeats 4000000 in
theorem rSums_any (w : World) (l : List En) (v : Value) (hv : RdE w v l) (ho : ∀ e ∈ l, e.v < 2 ^ 64) (hl : l.length ≤ 1000) :
    Calls Tryz.prog 112 #[v] w fun e w' => e = .returned (smV (sumsL l)) ∧ Below w.heap.size w w' := by
  obtain ⟨A, c, rfl, _, hx⟩ := hv
  have HX := Lib.hid hx
  have HD := Lib.hid (And.intro ho hl)
  clear hx ho hl
  go_enter Tryz.func112, Tryz.ntmps112
  go_wp2_with fail
  go_loopw [4, 5] (fun iv _ wr => ∃ j : Nat, j ≤ l.length ∧ iv = .int .i64 (j : Nat) ∧ SB wr (w.heap.size + 1) (sumsL (l.take j)) ∧ SB wr w.heap.size ⟨0, 0, 0, 0⟩ ∧ Below w.heap.size w wr) (fun iv _ _ => l.length - (intOf iv).toNat)
  case atStart =>
    have z := alloc_blk w (.cells #[.int .u64 0, .int .u64 0, .int .u64 0, .int .u64 0] 159)
    have h := alloc_blk (w.alloc (.cells #[.int .u64 0, .int .u64 0, .int .u64 0, .int .u64 0] 159)) (.cells #[.int .u64 0, .int .u64 0, .int .u64 0, .int .u64 0] 159)
    have z2 := ((below_alloc' (Below.refl (w.alloc (.cells #[.int .u64 0, .int .u64 0, .int .u64 0, .int .u64 0] 159)).heap.size _) (.cells #[.int .u64 0, .int .u64 0, .int .u64 0, .int .u64 0] 159)).block w.heap.size (by simp)).trans z
    rw [World.size_alloc] at h
    exact ⟨0, Nat.zero_le _, rfl, h, z2, (by repeat (first | exact Below.refl _ _ | (refine Below.drew ?_) | (refine below_drewN' ?_ _) | (refine below_alloc' ?_ _) | (refine Below.setCell ?_ (by first | exact Nat.le_refl _ | (simp; done) | (simp; omega)) _)))⟩
  case round =>
    obtain ⟨j, hj, rfl, hG, hR, hb⟩ := hrel
    have HB := Lib.hid (And.intro hG (And.intro hR hb))
    have hlG := kr_lt hG
    have hlR := kr_lt hR
    have g0 := hG.cell 0
    have g1 := hG.cell 1
    have g2 := hG.cell 2
    have g3 := hG.cell 3
    have t0 := hG.thaw 0
    have t1 := hG.thaw 1
    have t2 := hG.thaw 2
    have t3 := hG.thaw 3
    by_cases hlt : j < l.length
    · have h3 : (j : Int) < (l.length : Int) := by omega
      have h5 : (0 : Int) ≤ (j : Int) := by omega
      have HW := Lib.hid (show wrap64 ((j : Int) + 1) = ((j + 1 : Nat) : Int) by have := HD.out.2; unfold wrap64; omega)
      obtain ⟨b2, o2, rfl, hc⟩ := HX.out (by omega)
      obtain ⟨u, k0, ku, k1⟩ := hc j hlt
      replace k1 := Below.keeps hb _ _ k1
      have hlb : b2 < wr.heap.size := World.block_lt_of_cell? wr _ k1
      have HS := Lib.hid (sums_take HD.out.1 j hlt)
      obtain ⟨S, hS⟩ : ∃ S, sumsL (l.take j) = S := ⟨_, rfl⟩
      rw [hS] at g0 g1 g2 g3 HS HB
      simp at g0 g1 g2 g3
      have w1 : IntKind.u64.wrap ((S.n : Int) + 1) = (((S.n + 1) % 2 ^ 64 : Nat) : Int) := wrap_add_nat S.n 1
      have w2 := wrap_add_nat S.s l[j].v
      obtain ⟨x, hx⟩ : ∃ x, l[j].v = x := ⟨_, rfl⟩
      rw [hx] at k1 w2 HS
      clear hx hS hc k0 ku hG hR hb
      by_cases hmn : j = 0 ∨ x < S.mn
      · by_cases hjz : j = 0
        · have hj0 : ((j : Int) == 0) = true := by simp; omega
          clear hjz
          by_cases hmx : S.mx < x
          · have hd : (x : Int) > (S.mx : Int) := by omega
            go_wp2_with fail
            go_roundw
            case rel =>
              refine ⟨j + 1, by omega, (by first | rw [HW.out] | rfl | simp), ?_, (kr_far (by omega)).trans ((kr_far (by omega)).trans ((kr_far (by omega)).trans ((kr_far (by omega)).trans (HB.out.2.1)))), ((((HB.out.2.2).setCell (p := ⟨w.heap.size + 1, 2, none⟩) (Nat.le_succ _) _).setCell (p := ⟨w.heap.size + 1, 3, none⟩) (Nat.le_succ _) _).setCell (p := ⟨w.heap.size + 1, 0, none⟩) (Nat.le_succ _) _).setCell (p := ⟨w.heap.size + 1, 1, none⟩) (Nat.le_succ _) _⟩
              rw [HS.out]
              unfold Sm.step
              rw [if_pos hmn, if_pos hmx]
              exact kr_set (k := 1) (kr_set (k := 0) (kr_set (k := 3) (kr_set (k := 2) (HB.out.1))))
            case measure => (first | (rw [intOf_of' HW.out, intOf_of' rfl]; omega) | (simp [intOf]; omega) | (simp [intOf] <;> omega))
          · have hd : ¬ (x : Int) > (S.mx : Int) := by omega
            go_wp2_with fail
            go_roundw
            case rel =>
              refine ⟨j + 1, by omega, (by first | rw [HW.out] | rfl | simp), ?_, (kr_far (by omega)).trans ((kr_far (by omega)).trans ((kr_far (by omega)).trans (HB.out.2.1))), (((HB.out.2.2).setCell (p := ⟨w.heap.size + 1, 2, none⟩) (Nat.le_succ _) _).setCell (p := ⟨w.heap.size + 1, 0, none⟩) (Nat.le_succ _) _).setCell (p := ⟨w.heap.size + 1, 1, none⟩) (Nat.le_succ _) _⟩
              rw [HS.out]
              unfold Sm.step
              rw [if_pos hmn, if_neg hmx]
              exact kr_set (k := 1) (kr_set (k := 0) (kr_set (k := 2) (HB.out.1)))
            case measure => (first | (rw [intOf_of' HW.out, intOf_of' rfl]; omega) | (simp [intOf]; omega) | (simp [intOf] <;> omega))
        · have hj0 : ((j : Int) == 0) = false := by simp; omega
          have hxm : (x : Int) < (S.mn : Int) := by omega
          by_cases hmx : S.mx < x
          · have hd : (x : Int) > (S.mx : Int) := by omega
            go_wp2_with fail
            go_roundw
            case rel =>
              refine ⟨j + 1, by omega, (by first | rw [HW.out] | rfl | simp), ?_, (kr_far (by omega)).trans ((kr_far (by omega)).trans ((kr_far (by omega)).trans ((kr_far (by omega)).trans (HB.out.2.1)))), ((((HB.out.2.2).setCell (p := ⟨w.heap.size + 1, 2, none⟩) (Nat.le_succ _) _).setCell (p := ⟨w.heap.size + 1, 3, none⟩) (Nat.le_succ _) _).setCell (p := ⟨w.heap.size + 1, 0, none⟩) (Nat.le_succ _) _).setCell (p := ⟨w.heap.size + 1, 1, none⟩) (Nat.le_succ _) _⟩
              rw [HS.out]
              unfold Sm.step
              rw [if_pos hmn, if_pos hmx]
              exact kr_set (k := 1) (kr_set (k := 0) (kr_set (k := 3) (kr_set (k := 2) (HB.out.1))))
            case measure => (first | (rw [intOf_of' HW.out, intOf_of' rfl]; omega) | (simp [intOf]; omega) | (simp [intOf] <;> omega))
          · have hd : ¬ (x : Int) > (S.mx : Int) := by omega
            go_wp2_with fail
            go_roundw
            case rel =>
              refine ⟨j + 1, by omega, (by first | rw [HW.out] | rfl | simp), ?_, (kr_far (by omega)).trans ((kr_far (by omega)).trans ((kr_far (by omega)).trans (HB.out.2.1))), (((HB.out.2.2).setCell (p := ⟨w.heap.size + 1, 2, none⟩) (Nat.le_succ _) _).setCell (p := ⟨w.heap.size + 1, 0, none⟩) (Nat.le_succ _) _).setCell (p := ⟨w.heap.size + 1, 1, none⟩) (Nat.le_succ _) _⟩
              rw [HS.out]
              unfold Sm.step
              rw [if_pos hmn, if_neg hmx]
              exact kr_set (k := 1) (kr_set (k := 0) (kr_set (k := 2) (HB.out.1)))
            case measure => (first | (rw [intOf_of' HW.out, intOf_of' rfl]; omega) | (simp [intOf]; omega) | (simp [intOf] <;> omega))
      · have hj0 : ((j : Int) == 0) = false := by simp; omega
        have hxm : decide ((x : Int) < (S.mn : Int)) = false := by simp; omega
        have hxm' : ¬ (x : Int) < (S.mn : Int) := by omega
        by_cases hmx : S.mx < x
        · have hd : (x : Int) > (S.mx : Int) := by omega
          go_wp2_with fail
          go_roundw
          case rel =>
            refine ⟨j + 1, by omega, (by first | rw [HW.out] | rfl | simp), ?_, (kr_far (by omega)).trans ((kr_far (by omega)).trans ((kr_far (by omega)).trans (HB.out.2.1))), (((HB.out.2.2).setCell (p := ⟨w.heap.size + 1, 3, none⟩) (Nat.le_succ _) _).setCell (p := ⟨w.heap.size + 1, 0, none⟩) (Nat.le_succ _) _).setCell (p := ⟨w.heap.size + 1, 1, none⟩) (Nat.le_succ _) _⟩
            rw [HS.out]
            unfold Sm.step
            rw [if_neg hmn, if_pos hmx]
            exact kr_set (k := 1) (kr_set (k := 0) (kr_set (k := 3) (HB.out.1)))
          case measure => (first | (rw [intOf_of' HW.out, intOf_of' rfl]; omega) | (simp [intOf]; omega) | (simp [intOf] <;> omega))
        · have hd : ¬ (x : Int) > (S.mx : Int) := by omega
          go_wp2_with fail
          go_roundw
          case rel =>
            refine ⟨j + 1, by omega, (by first | rw [HW.out] | rfl | simp), ?_, (kr_far (by omega)).trans ((kr_far (by omega)).trans HB.out.2.1), (HB.out.2.2.setCell (p := ⟨w.heap.size + 1, 0, none⟩) (Nat.le_succ _) _).setCell (p := ⟨w.heap.size + 1, 1, none⟩) (Nat.le_succ _) _⟩
            rw [HS.out]
            unfold Sm.step
            rw [if_neg hmn, if_neg hmx]
            exact kr_set (k := 1) (kr_set (k := 0) HB.out.1)
          case measure => (first | (rw [intOf_of' HW.out, intOf_of' rfl]; omega) | (simp [intOf]; omega) | (simp [intOf] <;> omega))
    · have e : l.take j = l := List.take_of_length_le (by omega)
      have h3 : ¬ (j : Int) < (l.length : Int) := by omega
      have r0 := hR.cell 0
      have r1 := hR.cell 1
      have r2 := hR.cell 2
      have r3 := hR.cell 3
      have q0 := hR.thaw 0
      have q1 := hR.thaw 1
      have q2 := hR.thaw 2
      have q3 := hR.thaw 3
      rw [e] at g0 g1 g2 g3
      obtain ⟨S, hS⟩ : ∃ S, sumsL l = S := ⟨_, rfl⟩
      rw [hS] at g0 g1 g2 g3
      have HS := Lib.hid hS
      clear hS
      simp at g0 g1 g2 g3 r0 r1 r2 r3
      clear hG hR hb
      go_wp2_with fail
      refine bodyPost_ret (v := smV S) (by simp [results, Tryz.results112, go_sem, smV, r0, r1, r2, r3]) rfl ?_
      exact ⟨by rw [HS.out], ((((HB.out.2.2.setCell (p := ⟨w.heap.size, 0, none⟩) (Nat.le_refl _) _).setCell (p := ⟨w.heap.size, 1, none⟩) (Nat.le_refl _) _).setCell (p := ⟨w.heap.size, 2, none⟩) (Nat.le_refl _) _).setCell (p := ⟨w.heap.size, 3, none⟩) (Nat.le_refl _) _)⟩
end Go.Proofs.YtjokcagggmjgmaaGreat
/-! TrS -/
namespace Go.Proofs.YtjokcagggmjgmaaGreat
open Go.RowKit
set_option linter.unusedVariables false
set_option linter.unusedSimpArgs false
set_option maxRecDepth 100000

def slLen (v : Value) : Nat := match v with | .slice _ n _ => n | _ => 0
theorem OwnV.last {t : TypeId} {W w : World} {v x : Value} {l : List Value} (h : OwnV t W w v (l ++ [x])) :
    ∃ g c, v = .slice (some ⟨g, 0, none⟩) (l.length + 1) c ∧ w.cell? ⟨g, l.length, none⟩ = some x ∧ OwnV t W w (.slice (some ⟨g, 0, none⟩) l.length c) l ∧ l.length + 1 ≤ c := by
  obtain ⟨g, c, rfl, hg, hc⟩ := h.cells (by simp)
  have hc' := hc l.length (by simp)
  obtain ⟨h1, h2⟩ := h
  rw [List.length_append, List.length_singleton] at h2 ⊢
  rcases h2 with ⟨h2, _⟩ | ⟨g', cap, cur, q1, q2, q3, q4, q5, q6, q7⟩
  · cases h2
  · injection q1 with q1 _ q1'
    injection q1 with q1
    injection q1 with q1
    subst q1 q1'
    refine ⟨g, c, rfl, by rw [hc']; simp, ⟨by simp, .inr ⟨g, c, cur, rfl, q2, q3, by omega, q5, q6, ?_⟩⟩, q4⟩
    have := congrArg (List.take l.length) q7
    rw [List.take_take, List.take_left] at this
    rw [Nat.mul_one] at this ⊢
    rw [Nat.min_eq_left (by omega)] at this
    exact this
theorem Nd.tn {w : World} {k b : Nat} {l : List En} (h : Nd w k b l) : Tn k l := by
  induction h with
  | leaf _ p v h hp ho hv => exact .one _ hp
  | node _ s n pre ks h hs hkd hn ih =>
    refine .node n pre _ hkd fun x hx => ?_
    obtain ⟨y, hy, rfl⟩ := List.mem_map.1 hx
    exact ih y hy
/-- the kids of a node, as tree.Shapes goes through them -/
theorem Nd.kidsOf {w : World} {k b : Nat} {l : List En} (h : Nd w k b l) (hs : l.length ≤ 1000) :
    ∃ ks : List (Nat × Nat × List En), (shL l).pl = ks.map (·.1) ∧ shapesL l = shL l :: ks.flatMap (fun x => shapesL x.2.2) ∧ (∀ x ∈ ks, Nd w k x.2.1 x.2.2) ∧ ks.length ≤ 1000 ∧ (∀ x ∈ ks, x.2.2.length ≤ 1000) ∧
      ∀ j (hj : j < ks.length) w', Below w.heap.size w w' → Calls Tryz.prog 75 #[.pointer (some ⟨b, 0, none⟩), .int .i64 (ks[j].1 : Nat)] w' fun e w'' => e = .returned (pv (some ks[j].2.1)) ∧ Below w'.heap.size w' w'' := by
  cases h with
  | leaf _ p v h hp ho hv => exact ⟨[], rfl, by rw [shapes_one]; rfl, by simp, by simp, by simp, fun j hj => by simp at hj⟩
  | node _ s n pre ks h hs' hkd hn =>
    have hcl := cat_length (ks.map kl) hkd.ne
    refine ⟨ks, ?_, ?_, hn, ?_, ?_, ?_⟩
    · rw [hkd.sh]; simp only [List.map_map]; rfl
    · rw [Tn.shapes hkd (fun x hx => ?_), List.flatMap_map]
      · rfl
      · obtain ⟨y, hy, rfl⟩ := List.mem_map.1 hx
        exact (hn y hy).tn
    · rw [List.length_map] at hcl; omega
    · intro x hx
      have := hkd.kid_lt (List.mem_map_of_mem hx)
      have e : (kl x).2 = x.2.2 := rfl
      rw [e] at this
      omega
    · intro j hj w' hb
      have h1 := nkid_any w' b s k (ks.map kb) (ks[j].1 : Nat) (Below.keeps hb _ _ h.c3) (hs'.below hb)
      have e : lookI (ks.map kb) (ks[j].1 : Nat) = some ks[j].2.1 := by
        unfold lookI
        rw [if_neg (by omega), Int.toNat_natCast]
        have := Od.look_mem (key := ka) hs'.rw'.asc (x := kb ks[j]) (List.mem_map_of_mem (List.getElem_mem hj))
        rw [show ka (kb ks[j]) = ks[j].1 from rfl] at this
        rw [this]; rfl
      rw [e] at h1
      exact h1
def stV (st : List (Option Nat × List En)) : List Value := st.map fun x => pv x.1
theorem stV_append (a b : List (Option Nat × List En)) : stV (a ++ b) = stV a ++ stV b := List.map_append ..
def flatS (st : List (Option Nat × List En)) : List Sh := st.reverse.flatMap fun x => shapesL x.2
theorem flatS_snoc (st : List (Option Nat × List En)) (x : Option Nat × List En) : flatS (st ++ [x]) = shapesL x.2 ++ flatS st := by unfold flatS; simp
theorem RtN.shapes_pos {w : World} {k b : Nat} {l : List En} (h : Nd w k b l) (hs : l.length ≤ 1000) : 1 ≤ (shapesL l).length := by
  obtain ⟨ks, _, h2, _⟩ := h.kidsOf hs
  rw [h2]; simp
theorem flatS_len {w : World} {k : Nat} {st : List (Option Nat × List En)} (h : ∀ x ∈ st, RtN w k x.1 x.2 ∧ x.2.length ≤ 1000) (hn : ∀ x ∈ st, x.1 ≠ none) : st.length ≤ (flatS st).length := by
  have key : ∀ l : List (Option Nat × List En), (∀ x ∈ l, RtN w k x.1 x.2 ∧ x.2.length ≤ 1000) → (∀ x ∈ l, x.1 ≠ none) → l.length ≤ (l.flatMap fun x => shapesL x.2).length := by
    intro l
    induction l with
    | nil => intros; simp
    | cons x l ih =>
      intro h hn
      have h1 := ih (fun y hy => h y (by simp [hy])) (fun y hy => hn y (by simp [hy]))
      have h2 : 1 ≤ (shapesL x.2).length := by
        obtain ⟨r, lx⟩ := x
        have h3 := h (r, lx) (by simp)
        cases r with
        | none => exact absurd rfl (hn (none, lx) (by simp))
        | some b => exact RtN.shapes_pos h3.1 h3.2
      simp only [List.flatMap_cons, List.length_append, List.length_cons]
      omega
  have := key st.reverse (fun x hx => h x (by simpa using hx)) (fun x hx => hn x (by simpa using hx))
  rw [List.length_reverse] at this
  exact this
def kst (ks : List (Nat × Nat × List En)) : List (Option Nat × List En) := ks.reverse.map fun x => (some x.2.1, x.2.2)
theorem flatS_kst (st : List (Option Nat × List En)) (ks : List (Nat × Nat × List En)) : flatS (st ++ kst ks) = (ks.flatMap fun x => shapesL x.2.2) ++ flatS st := by
  unfold flatS kst
  rw [List.reverse_append, List.flatMap_append, ← List.map_reverse, List.reverse_reverse, List.flatMap_map]
theorem kst_drop (ks : List (Nat × Nat × List En)) (m : Nat) (h : m < ks.length) : kst (ks.drop m) = kst (ks.drop (m + 1)) ++ [(some ks[m].2.1, ks[m].2.2)] := by
  unfold kst
  rw [← List.getElem_cons_drop h, List.reverse_cons, List.map_append]
  rfl
/-- a row of another type has grown -/
theorem PtK.grownV {T : TypeId} {W0 W w w' : World} {v : Value} {l : List Value} (h1 : T ≠ 49) (h2 : T ≠ 3) (ho : OwnV T W w v l) (hg : w.grownBy w' v.ownBlock) : ∀ u p s, PtK W0 W w u p s → PtK W0 W w' u p s := by
  have key : ∀ {b : Nat} {cur : Array Value} {t : TypeId} {fr : Nat × Nat}, t ≠ T → w.heap[b]? = some (.cells cur t fr) → w'.heap[b]? = w.heap[b]? := fun ht hb =>
    hg.block _ (kr_lt hb) fun e => by
      obtain ⟨_, c2, h2⟩ := ho.block _ e.symm
      rw [hb] at h2
      injection h2 with h2
      injection h2 with _ h2 _
      exact ht h2
  exact fun u p s h => ⟨h.1.imp id (·.keepBlock fun b cur fr hb => key (fun e => h1 e.symm) hb), h.2.keepBlock fun b cur hb => key (fun e => h2 e.symm) hb⟩
theorem OwnS.grownV {T : TypeId} {Pt : PtS'} {W w w' : World} {u v : Value} {m : List Sh} {l : List Value} (hT : T ≠ 115) (h : OwnS Pt W w u m) (ho : OwnV T W w v l) (hg : w.grownBy w' v.ownBlock) : OwnS Pt W w' u m := by
  have hblk := h.block
  obtain ⟨cs, h1, h2⟩ := h
  refine ⟨cs, h1.kept hg ?_, h2⟩
  cases hu : u.ownBlock with
  | none => exact .inl rfl
  | some k =>
    refine .inr fun e => ?_
    obtain ⟨_, c1, g1⟩ := hblk k hu
    obtain ⟨_, c2, g2⟩ := ho.block k e.symm
    rw [g1] at g2
    injection g2 with g2
    injection g2 with _ g2 _
    exact hT g2.symm
theorem blkOther {T t : TypeId} {W w w' : World} {v : Value} {l : List Value} {b : Nat} {cur : Array Value} {fr : Nat × Nat} (hT : t ≠ T) (hb : w.heap[b]? = some (.cells cur t fr)) (ho : OwnV T W w v l) (hg : w.grownBy w' v.ownBlock) : w'.heap[b]? = some (.cells cur t fr) :=
  (hg.block _ (kr_lt hb) fun e => by
    obtain ⟨_, c2, h2⟩ := ho.block _ e.symm
    rw [hb] at h2
    injection h2 with h2
    injection h2 with _ h2 _
    exact hT h2).trans hb
set_option maxHeartbeats 8000000 in
theorem tshapes_any (w : World) (t k : Nat) (l : List En) (ht : TrR w t k l) (hs : l.length ≤ 1000) : Calls Tryz.prog 36 #[.pointer (some ⟨t, 0, none⟩)] w fun e w' => ShsP w w (shapesL l) e w' := by
  obtain ⟨r, c1, hr⟩ := ht.c1
  obtain ⟨q, hq⟩ := pv_ex r
  have hlt := World.block_lt_of_cell? w _ c1
  have hT : (shapesL l).length ≤ 2000 := by
    cases r with
    | none => obtain rfl : l = [] := hr; decide
    | some b => have := (Nd.tn hr).len; omega
  have HD := Lib.hid (And.intro ht.k1 (And.intro ht.k16 (And.intro hs hT)))
  have HR := Lib.hid (And.intro hr hq)
  rw [hq] at c1
  clear ht hr hT hs
  go_enter Tryz.func36, Tryz.ntmps36
  go_wp2_with fail
  refine (troot_any w t q c1).mono ?_
  rintro e w1 ⟨rfl, hw⟩
  obtain rfl := hw.symm
  clear hw
  go_wp2_with fail
  go_loopw [3, 4, 5, 6, 7] (fun ov sv _ _ _ wr => ∃ (st : List (Option Nat × List En)) (outL : List Sh), outL ++ flatS st = shapesL l ∧ (∀ x ∈ st, RtN w k x.1 x.2 ∧ x.2.length ≤ 1000) ∧ ((∀ x ∈ st, x.1 ≠ none) ∨ st.length ≤ 1) ∧ OwnS (PtK w w wr) w wr ov outL ∧ OwnV 103 w wr sv (stV st) ∧ Below w.heap.size w wr)
    (fun ov sv _ _ _ _ => ((shapesL l).length - slLen ov) * ((shapesL l).length + 2) + slLen sv)
  case atStart =>
    refine ⟨[(r, l)], [], by unfold flatS; simp, ?_, .inr (by simp), OwnS.nil _ _ _, ?_, (by repeat (first | exact Below.refl _ _ | (refine Below.drew ?_) | (refine below_drewN' ?_ _) | (refine below_alloc' ?_ _) | (refine Below.setCell ?_ (by first | exact Nat.le_refl _ | (simp; done) | (simp; omega)) _)))⟩
    · intro x hx
      obtain rfl : x = (r, l) := by simpa using hx
      exact ⟨HR.out.1, HD.out.2.2.1⟩
    · unfold stV OwnV
      simp only [List.map_cons, List.map_nil, List.length_singleton, hq]
      exact World.ownsRow_lit w #[.pointer q] 1 (Nat.le_refl _) (by simp [maxLen]) (by simp)
  case round =>
    obtain ⟨st, outL, hfl, hst, hsome, hown, hsv, hb⟩ := hrel
    rcases List.eq_nil_or_concat st with rfl | ⟨st0, ⟨rx, lx⟩, rfl⟩
    · obtain ⟨A, c, rfl⟩ := hsv.shape
      have HF := Lib.hid (And.intro hfl (And.intro hown hb))
      clear hfl hst hsome hown hsv hb
      simp only [stV, List.map_nil, List.length_nil]
      go_wp2_with fail
      go_ret
      exact ⟨_, rfl, by have := HF.out.1; unfold flatS at this; simp at this; rw [← this]; exact HF.out.2.1, HF.out.2.2⟩
    · rw [List.concat_eq_append] at *
      rw [stV_append] at hsv
      obtain ⟨g, c, rfl, k0, hsv0, hcap⟩ := hsv.last
      have hlen : (stV st0).length = st0.length := List.length_map ..
      rw [hlen] at k0 hsv0 hcap ⊢
      have hgl := World.block_lt_of_cell? wr _ k0
      have hn0 : st0.length ≤ (flatS st0).length ∧ (st0 ≠ [] → rx ≠ none) := by
        rcases hsome with h | h
        · exact ⟨flatS_len (fun x hx => hst x (by simp [hx])) (fun x hx => h x (by simp [hx])), fun _ => h (rx, lx) (by simp)⟩
        · rw [List.length_append, List.length_singleton] at h
          have : st0 = [] := List.length_eq_zero_iff.1 (by omega)
          subst this
          exact ⟨by simp, fun h => absurd rfl h⟩
      rw [flatS_snoc] at hfl
      have hflen := congrArg List.length hfl
      simp only [List.length_append] at hflen
      have hrx := (hst (rx, lx) (by simp)).1
      have hlx := (hst (rx, lx) (by simp)).2
      have hst0 : ∀ x ∈ st0, RtN w k x.1 x.2 ∧ x.2.length ≤ 1000 := fun x hx => hst x (by simp [hx])
      have hsome0 : rx ≠ none → ∀ x ∈ st0, x.1 ≠ none := fun hne => by
        rcases hsome with h | h
        · exact fun x hx => h x (by simp [hx])
        · rw [List.length_append, List.length_singleton] at h
          have : st0 = [] := List.length_eq_zero_iff.1 (by omega)
          subst this
          exact fun x hx => by simp at hx
      obtain ⟨Ao, co, rfl⟩ : ∃ Ao co, u3 = .slice Ao outL.length co := by obtain ⟨A, c, e, _⟩ := hown.rd; exact ⟨A, c, e⟩
      have h1 : (0 : Int) ≤ (st0.length : Int) := by omega
      have h2 : (st0.length : Int) < (st0.length : Int) + 1 := by omega
      have h2' : (st0.length : Int) ≤ (st0.length : Int) + 1 := by omega
      have h3 : (st0.length : Int) + 1 > 0 := by omega
      have h4 : (st0.length : Int) ≤ (c : Int) := by omega
      have hw0 : wrap64 (st0.length : Int) = (st0.length : Int) := by have := HD.out.2.2.2; unfold wrap64; omega
      have HS := Lib.hid (And.intro hfl (And.intro hst0 (And.intro hsome0 (And.intro hown (And.intro hsv0 (And.intro hb (And.intro hflen hn0)))))))
      clear hfl hst hsome hown hsv hsv0 hb hst0 hsome0 hlen hflen hn0 hcap
      cases rx with
      | none =>
        simp only [stV, List.map_cons, List.map_nil, pv_none] at k0
        have HX := Lib.hid (show st0 = [] from by cases st0 with | nil => rfl | cons y ys => exact absurd rfl (HS.out.2.2.2.2.2.2.2.2 (by simp)))
        have HLX := Lib.hid (show lx = [] from hrx)
        clear hrx
        go_wp2_with fail
        go_roundw
        case rel => exact ⟨st0, outL, by have := HS.out.1; rw [HLX.out] at this; exact this, HS.out.2.1, .inr (by rw [HX.out]; simp), HS.out.2.2.2.1, HS.out.2.2.2.2.1, HS.out.2.2.2.2.2.1⟩
        case measure => simp [slLen]
      | some b =>
        have hnd : Nd w k b lx := hrx
        obtain ⟨ks, p1, p2, p3, p4, p5, p6⟩ := hnd.kidsOf hlx
        have HK := Lib.hid (And.intro p1 (And.intro p2 (And.intro p3 (And.intro p4 (And.intro p5 p6)))))
        have HSH := Lib.hid (fun w' (hb : Below w.heap.size w w') => nshape_any w' k b lx (hnd.bel hb) HD.out.1 HD.out.2.1)
        simp only [stV, List.map_cons, List.map_nil, pv_some] at k0
        clear hrx hnd p1 p2 p3 p4 p5 p6
        go_wp2_with fail
        refine (HSH.out _ HS.out.2.2.2.2.2.1).mono ?_
        rintro e w5 ⟨x, rfl, hx, hb5⟩
        obtain ⟨u, p9, rfl, hpt, hpl⟩ := hx.ex
        obtain ⟨Ap, cp, ep⟩ := hpl.shape
        obtain ⟨Au, cu, rfl, _⟩ := RdU.point hpt.rd
        rw [List.length_map, HK.out.1, List.length_map] at ep
        have hb5w : Below w.heap.size w w5 := HS.out.2.2.2.2.2.1.trans (hb5.mono HS.out.2.2.2.2.2.1.size)
        have hpt5 : PtK w w w5 _ p9 (shL lx) := ⟨.inr hpt, hpl.base HS.out.2.2.2.2.2.1.size⟩
        have hsl := slicesK w w w5 _ _ _ hpt5
        have H5 := Lib.hid (And.intro hpt5 (And.intro ((HS.out.2.2.2.1.below hb5).mono (PtK.below hb5)) (And.intro (HS.out.2.2.2.2.1.below hb5) hb5w)))
        have hgl5 : g < w5.heap.size := Nat.lt_of_lt_of_le hgl hb5.size
        subst ep
        clear hx hpt hpl hb5 hb5w hpt5 k0 hgl
        obtain ⟨S, hS⟩ : ∃ S, shL lx = S := ⟨_, rfl⟩
        rw [hS] at H5 HK hsl ⊢
        clear hS HSH
        go_wp2_with (at_builtin; refine wpList_append_S (Pt := PtK w w w5) rfl (.tmp 29) (.tmp 31) rfl w outL [S] ?_ ?_ ?_ ?_ ?_)
        · exact H5.out.2.1.below (by repeat (first | exact Below.refl _ _ | (refine Below.drew ?_) | (refine below_drewN' ?_ _) | (refine below_alloc' ?_ _) | (refine Below.setCell ?_ (by first | exact Nat.le_refl _ | (simp; done) | (simp; omega)) _)))
        · exact SrcS.one (slicesK _ _ _) H5.out.1 (by simp [go_sem]) (by simp [go_sem]) (by simp [go_sem]) (by simp [go_sem]) (by simp [go_sem])
        · have := H5.out.2.2.2.size; simp; omega
        · have := HS.out.2.2.2.2.2.2.1; have := HD.out.2.2.2; simp only [List.length_singleton]; omega
        intro v' w6 hown' hg
        have hoW := H5.out.2.1.below (w' := ((w5.alloc (.cells #[.int .i64 S.lv, .slice Au S.pre.length cu, .slice Ap ks.length cp, .bool S.dense, .int .u64 (S.v : Nat)] 115)).alloc (.cells #[.int .i64 S.lv, .slice Au S.pre.length cu, .slice Ap ks.length cp, .bool S.dense, .int .u64 (S.v : Nat)] 115))) (by repeat (first | exact Below.refl _ _ | (refine Below.drew ?_) | (refine below_drewN' ?_ _) | (refine below_alloc' ?_ _) | (refine Below.setCell ?_ (by first | exact Nat.le_refl _ | (simp; done) | (simp; omega)) _)))
        have hB6 : w6.heap[w5.heap.size]? = some (.cells #[.int .i64 S.lv, .slice Au S.pre.length cu, .slice Ap ks.length cp, .bool S.dense, .int .u64 (S.v : Nat)] 115 (0, 0)) := (hg.block _ (by simp; omega) fun e => by
          obtain ⟨_, cur, h⟩ := H5.out.2.1.block _ e.symm
          have := kr_lt h
          omega).trans (((below_alloc' (Below.refl _ _) _).block _ (by simp)).trans (alloc_blk _ _))
        have hpk : ∀ u p s, PtK w w w5 u p s → PtK w w w6 u p s := fun u p s h => PtK.grown hoW hg _ _ _ (PtK.below (w' := ((w5.alloc (.cells #[.int .i64 S.lv, .slice Au S.pre.length cu, .slice Ap ks.length cp, .bool S.dense, .int .u64 (S.v : Nat)] 115)).alloc (.cells #[.int .i64 S.lv, .slice Au S.pre.length cu, .slice Ap ks.length cp, .bool S.dense, .int .u64 (S.v : Nat)] 115))) (by repeat (first | exact Below.refl _ _ | (refine Below.drew ?_) | (refine below_drewN' ?_ _) | (refine below_alloc' ?_ _) | (refine Below.setCell ?_ (by first | exact Nat.le_refl _ | (simp; done) | (simp; omega)) _))) _ _ _ h)
        have hst6 := (H5.out.2.2.1.below (w' := ((w5.alloc (.cells #[.int .i64 S.lv, .slice Au S.pre.length cu, .slice Ap ks.length cp, .bool S.dense, .int .u64 (S.v : Nat)] 115)).alloc (.cells #[.int .i64 S.lv, .slice Au S.pre.length cu, .slice Ap ks.length cp, .bool S.dense, .int .u64 (S.v : Nat)] 115))) (by repeat (first | exact Below.refl _ _ | (refine Below.drew ?_) | (refine below_drewN' ?_ _) | (refine below_alloc' ?_ _) | (refine Below.setCell ?_ (by first | exact Nat.le_refl _ | (simp; done) | (simp; omega)) _)))).keepBlock fun b cur hb => hg.block b (kr_lt hb) fun e => by
          obtain ⟨_, c2, h2⟩ := hoW.block b e.symm
          rw [hb] at h2
          injection h2 with h2
          injection h2 with _ h2 _
          revert h2; decide
        have hb6 : Below w.heap.size w w6 := hoW.grown (H5.out.2.2.2.trans ((show Below w5.heap.size w5 ((w5.alloc (.cells #[.int .i64 S.lv, .slice Au S.pre.length cu, .slice Ap ks.length cp, .bool S.dense, .int .u64 (S.v : Nat)] 115)).alloc (.cells #[.int .i64 S.lv, .slice Au S.pre.length cu, .slice Ap ks.length cp, .bool S.dense, .int .u64 (S.v : Nat)] 115)) from (by repeat (first | exact Below.refl _ _ | (refine Below.drew ?_) | (refine below_drewN' ?_ _) | (refine below_alloc' ?_ _) | (refine Below.setCell ?_ (by first | exact Nat.le_refl _ | (simp; done) | (simp; omega)) _)))).mono H5.out.2.2.2.size)) hg
        have H6 := Lib.hid (And.intro (hown'.mono hpk) (And.intro hB6 (And.intro (hpk _ _ _ H5.out.1).2 (And.intro hst6 hb6))))
        have k2 : w6.cell? ⟨w5.heap.size, 2, none⟩ = some (.slice Ap ks.length cp) := by simp [World.cell?, hB6]
        have hl6 := kr_lt hB6
        generalize w5.heap.size = B at *
        have hw1 : wrap64 ((ks.length : Int) - 1) = (ks.length : Int) - 1 := by have := HK.out.2.2.2.1; unfold wrap64; omega
        have HW1 := Lib.hid hw1
        clear hown' hg hoW hpk hst6 hb6 hB6 H5 hw0 h1 h2 h2' h3 h4 hsl
        go_wp2_with fail
        clear k2 hw1 hl6
        go_loopw [4, 7] (fun sv iv wr2 => ∃ m : Nat, m ≤ ks.length ∧ iv = .int .i64 ((m : Int) - 1) ∧ OwnV 103 w wr2 sv (stV (st0 ++ kst (ks.drop m))) ∧ OwnS (PtK w w wr2) w wr2 v' (outL ++ [S]) ∧ wr2.heap[B]? = some (.cells #[.int .i64 S.lv, .slice Au S.pre.length cu, .slice Ap ks.length cp, .bool S.dense, .int .u64 (S.v : Nat)] 115 (0, 0)) ∧
          OwnV 3 w wr2 (.slice Ap ks.length cp) (S.pl.map fun (x : Nat) => Value.int .i64 (x : Nat)) ∧ Below w.heap.size w wr2) (fun _ iv _ => (intOf iv + 1).toNat)
        case atStart => exact ⟨ks.length, Nat.le_refl _, by first | rfl | rw [HW1.out], by rw [List.drop_length]; simp only [kst, List.reverse_nil, List.map_nil, List.append_nil]; exact H6.out.2.2.2.1, H6.out.1, H6.out.2.1, H6.out.2.2.1, H6.out.2.2.2.2⟩
        case round =>
          obtain ⟨m, hm, rfl, hsv, hown, hB, hpl, hb⟩ := hrel
          have HR2 := Lib.hid (And.intro hsv (And.intro hown (And.intro hB (And.intro hpl hb))))
          have HM := Lib.hid hm
          obtain ⟨As, cs, es⟩ := hsv.shape
          cases m with
          | zero =>
            have he : (((0 : Nat) : Int) - 1) = -1 := rfl
            clear hsv hown hB hpl hb hm es
            simp only [he]
            go_wp2_with fail
            go_roundw
            case rel =>
              refine ⟨st0 ++ kst ks, outL ++ [S], ?_, ?_, .inl ?_, HR2.out.2.1, HR2.out.1, HR2.out.2.2.2.2⟩
              · have := HS.out.1
                rw [HK.out.2.1] at this
                rw [flatS_kst, ← this]
                simp
              · intro x hx
                rcases List.mem_append.1 hx with hx | hx
                · exact HS.out.2.1 x hx
                · unfold kst at hx
                  obtain ⟨y, hy, rfl⟩ := List.mem_map.1 hx
                  exact ⟨HK.out.2.2.1 y (by simpa using hy), HK.out.2.2.2.2.1 y (by simpa using hy)⟩
              · intro x hx
                rcases List.mem_append.1 hx with hx | hx
                · exact HS.out.2.2.1 (by simp) x hx
                · unfold kst at hx
                  obtain ⟨y, hy, rfl⟩ := List.mem_map.1 hx
                  simp
            case measure =>
              obtain ⟨A9, c9, e9⟩ := HR2.out.1.shape
              obtain ⟨A8, c8, e8, _⟩ := HR2.out.2.1.rd
              rw [e9, e8]
              have hk : (stV (st0 ++ kst ks)).length = st0.length + ks.length := by unfold stV kst; simp
              have h1 := HS.out.2.2.2.2.2.2.1
              have h2 := HS.out.2.2.2.2.2.2.2.1
              have h3 : (shapesL lx).length = 1 + (ks.flatMap fun x => shapesL x.2.2).length := by rw [HK.out.2.1]; simp; omega
              have h4 : ks.length ≤ (ks.flatMap fun x => shapesL x.2.2).length := by
                have key : ∀ q : List (Nat × Nat × List En), (∀ x ∈ q, Nd w k x.2.1 x.2.2) → (∀ x ∈ q, x.2.2.length ≤ 1000) → q.length ≤ (q.flatMap fun x => shapesL x.2.2).length := by
                  intro q
                  induction q with
                  | nil => intros; simp
                  | cons x q ih =>
                    intro h1 h2
                    have h3 := ih (fun y hy => h1 y (by simp [hy])) (fun y hy => h2 y (by simp [hy]))
                    have h4 := RtN.shapes_pos (h1 x (by simp)) (h2 x (by simp))
                    simp only [List.flatMap_cons, List.length_append, List.length_cons]
                    omega
                exact key ks HK.out.2.2.1 HK.out.2.2.2.2.1
              simp only [slLen, List.drop_zero, List.length_append, List.length_singleton, hk]
              generalize (shapesL l).length = T at *
              obtain ⟨D, hD⟩ : ∃ D, T - (outL.length + 1) = D := ⟨_, rfl⟩
              have hD' : T - outL.length = D + 1 := by omega
              rw [hD, hD', Nat.succ_mul]
              omega
          | succ m =>
            have he : (((m + 1 : Nat) : Int) - 1) = (m : Int) := by omega
            have hml : m < ks.length := by omega
            obtain ⟨gp, np, ep, _, hcp⟩ := hpl.cells (by intro h; have := congrArg List.length h; have h9 := congrArg List.length HK.out.1; rw [List.length_map] at this h9; simp at this; rw [this] at h9; simp at h9; omega)
            have kp := hcp m (by rw [List.length_map, HK.out.1, List.length_map]; exact hml)
            have ke : S.pl[m]'(by rw [HK.out.1, List.length_map]; exact hml) = ks[m].1 := by simp only [HK.out.1, List.getElem_map]
            rw [List.getElem_map, ke] at kp
            injection ep with ep e2 e3
            subst ep
            clear e2 e3
            have HKD := Lib.hid (HK.out.2.2.2.2.2 m hml wr hb)
            have HKS := Lib.hid (kst_drop ks m hml)
            have k2 : wr.cell? ⟨B, 2, none⟩ = some (.slice (some ⟨gp, 0, none⟩) ks.length cp) := by simp [World.cell?, hB]
            have hlB := kr_lt hB
            have hlg : gp < wr.heap.size := World.block_lt_of_cell? wr _ kp
            have hf : (0 : Int) ≤ (m : Int) := by omega
            have hf2 : (m : Int) < (ks.length : Int) := by omega
            have HWR := Lib.hid (show wrap64 ((m : Int) - 1) = (m : Int) - 1 by have := HK.out.2.2.2.1; unfold wrap64; omega)
            obtain ⟨y1, hy1⟩ : ∃ y1, ks[m].1 = y1 := ⟨_, rfl⟩
            obtain ⟨y2, hy2⟩ : ∃ y2, ks[m].2.1 = y2 := ⟨_, rfl⟩
            rw [hy1, hy2] at HKD
            rw [hy1] at kp
            rw [hy2] at HKS
            subst es
            clear hsv hown hB hpl hb hcp ke hy1 hy2 hm
            simp only [he, pv_some] at *
            go_wp2_with fail
            refine HKD.out.mono ?_
            rintro e w7 ⟨rfl, hb7⟩
            have H7 := Lib.hid (And.intro (HR2.out.1.below hb7) (And.intro ((HR2.out.2.1.below hb7).mono (PtK.below hb7)) (And.intro ((hb7.block _ hlB).trans HR2.out.2.2.1) (And.intro (HR2.out.2.2.2.1.below hb7) (HR2.out.2.2.2.2.trans (hb7.mono HR2.out.2.2.2.2.size))))))
            clear hb7 k2 hlB kp hlg
            go_wp2_with (at_builtin; refine wpList_append_V rfl (.tmp 41) (.tmp 49) rfl w (stV (st0 ++ kst (ks.drop (m + 1)))) (.pointer (some ⟨y2, 0, none⟩)) nodesT ?_ ?_ ?_ ?_ ?_)
            · exact H7.out.1.below (by repeat (first | exact Below.refl _ _ | (refine Below.drew ?_) | (refine below_drewN' ?_ _) | (refine below_alloc' ?_ _) | (refine Below.setCell ?_ (by first | exact Nat.le_refl _ | (simp; done) | (simp; omega)) _)))
            · exact ⟨_, _, rfl, by simp [go_sem], rfl⟩
            · have := H7.out.2.2.2.2.size; simp; omega
            · have h1 := HS.out.2.2.2.2.2.2.1; have h2 := HS.out.2.2.2.2.2.2.2.1; have h3 := HD.out.2.2.2; have h4 := HK.out.2.2.2.1; unfold stV kst; simp; omega
            intro sv' w8 hown' hg
            have hsW := H7.out.1.below (w' := (w7.alloc (.cells #[.pointer (some ⟨y2, 0, none⟩)] 103))) (by repeat (first | exact Below.refl _ _ | (refine Below.drew ?_) | (refine below_drewN' ?_ _) | (refine below_alloc' ?_ _) | (refine Below.setCell ?_ (by first | exact Nat.le_refl _ | (simp; done) | (simp; omega)) _)))
            have hbW : Below w7.heap.size w7 (w7.alloc (.cells #[.pointer (some ⟨y2, 0, none⟩)] 103)) := (by repeat (first | exact Below.refl _ _ | (refine Below.drew ?_) | (refine below_drewN' ?_ _) | (refine below_alloc' ?_ _) | (refine Below.setCell ?_ (by first | exact Nat.le_refl _ | (simp; done) | (simp; omega)) _)))
            have H8 := Lib.hid (show OwnV 103 w w8 sv' (stV (st0 ++ kst (ks.drop m))) ∧ OwnS (PtK w w w8) w w8 v' (outL ++ [S]) ∧ w8.heap[B]? = some (.cells #[.int .i64 S.lv, .slice Au S.pre.length cu, .slice (some ⟨gp, 0, none⟩) ks.length cp, .bool S.dense, .int .u64 (S.v : Nat)] 115 (0, 0)) ∧
              OwnV 3 w w8 (.slice (some ⟨gp, 0, none⟩) ks.length cp) (S.pl.map fun (x : Nat) => Value.int .i64 (x : Nat)) ∧ Below w.heap.size w w8 from by
              refine ⟨?_, ?_, ?_, ?_, ?_⟩
              · rw [HKS.out, ← List.append_assoc, stV_append]; exact hown'
              · exact (((H7.out.2.1.below hbW).mono (PtK.below hbW)).grownV (by decide) hsW hg).mono (PtK.grownV (by decide) (by decide) hsW hg)
              · exact blkOther (by decide) ((hbW.block _ (kr_lt H7.out.2.2.1)).trans H7.out.2.2.1) hsW hg
              · exact (H7.out.2.2.2.1.below hbW).keepBlock fun b cur hb => by
                  rw [blkOther (by decide) hb hsW hg, hb]
              · exact hsW.grown (H7.out.2.2.2.2.trans (hbW.mono H7.out.2.2.2.2.size)) hg)
            clear hown' hg hsW hbW
            go_wp2_with fail
            go_roundw
            case rel => exact ⟨m, by omega, by first | rfl | rw [HWR.out], H8.out⟩
            case measure => rw [intOf_of' HWR.out, intOf_nat]; omega
end Go.Proofs.YtjokcagggmjgmaaGreat
/-! IsN -/
namespace Go.Proofs.YtjokcagggmjgmaaGreat
open Go.RowKit
set_option linter.unusedVariables false
set_option linter.unusedSimpArgs false
set_option maxRecDepth 100000

theorem sums_neq (S : Sm) (w : World) : (binOp .neq 159 (smV S) (smV S)).run Tryz.prog w = .ok (.bool false) w := by
  have u3 := Tryz.underlying49
  have a3 := Tryz.isAgg49
  have z3 := Tryz.sizeOf49
  have hS : Tryz.prog.underlying 159 = some (.struct (Tryz.prog.fieldsOf 159)) := by kernel_rfl
  have hp : Tryz.prog.stoodInHeld 159 = false := by kernel_rfl
  unfold smV
  rw [run_neq_struct, show (10000 : Nat) = 9999 + 1 from rfl, run_equalIn_struct w 9999 159 _ _ hS hp]
  simp only [Program.fieldsOf, Tryz.underlying159]
  go_simp
theorem sums_grd (S : Sm) (op : BinOp) (x y : Operand) (w : World) : (eqGuard op 159 x y (smV S) (smV S)).run Tryz.prog w = .ok () w := run_eqGuard_agg w op _ x y _ _ (by kernel_rfl)
theorem rShape_nd {k : Nat} {l : List En} (h : Tn k l) (W0 w : World) (v : Value) (hv : RdE W0 v l) (hb : Below W0.heap.size W0 w) (he : EtS k l) : Calls Tryz.prog 108 #[v] w fun e' w' => ShRP w w (shL l) e' w' := by
  cases h with
  | one e h => exact (rShape_one w w e v (hv.below hb) (Below.refl _ _))
  | node n pre ks hk hn => exact rShape_more w w k n pre ks v hk (hv.below hb) he
theorem Nd.vals {w : World} {k b : Nat} {l : List En} (h : Nd w k b l) : ∀ e ∈ l, e.v < 2 ^ 64 := by
  induction h with
  | leaf _ p v h hp ho hv => intro e he; obtain rfl : e = ⟨p, v⟩ := by simpa using he
                             exact hv
  | node _ s n pre ks h hs hkd hn ih =>
    intro e he
    obtain ⟨x, hx, he⟩ := mem_cat.1 he
    obtain ⟨y, hy, rfl⟩ := List.mem_map.1 hx
    exact ih y hy e he
theorem Tn.sh_pre {k : Nat} {l : List En} (h : Tn k l) : (shL l).pre = preL l := by
  cases h with
  | one e h => rw [preL_one]; rfl
  | node n pre ks hk hn => rw [hk.sh, hk.preL]
theorem Tn.sh_lv {k : Nat} {l : List En} (h : Tn k l) : (shL l).lv = (lev l : Int) - 1 := by
  cases h with
  | one e h => rw [lev_one]; rfl
  | node n pre ks hk hn => rw [hk.sh, hk.lev]; show (n : Int) = _; omega
theorem Tn.sh_pl {k : Nat} {l : List En} (h : Tn k l) : (shL l).pl.length ≤ l.length := by
  cases h with
  | one e h => simp [shL]
  | node n pre ks hk hn => rw [hk.sh]; simp only [List.length_map]; exact (cat_length ks hk.ne).1
theorem leaf_ent (w : World) (k b : Nat) (l : List En) (hnd : Nd w k b l) (hl1 : l.length = 1) (k1 : 1 ≤ k) (k16 : k ≤ 16) : Calls Tryz.prog 110 #[.pointer (some ⟨b, 0, none⟩)] w fun e w' => EntP w (l[0]'(by omega)).p (l[0]'(by omega)).v e w' := by
  obtain ⟨e, rfl⟩ := List.length_eq_one_iff.1 hl1
  obtain ⟨h, hp⟩ := hnd.leaf_hd
  exact ent_leaf w b k e.v _ e.p _ h hp k1 k16
set_option maxHeartbeats 4000000 in
theorem is06_one (w : World) (k b : Nat) (l : List En) (v : Value) (hnd : Nd w k b l) (hl1 : l.length = 1) (hv0 : RdE w v l) (he : EtS k l) (k1 : 1 ≤ k) (k16 : k ≤ 16) :
    Calls Tryz.prog 66 #[.pointer (some ⟨b, 0, none⟩), v] w fun e w' => e = .returned (.bool true) ∧ Below w.heap.size w w' := by
  have HEN := Lib.hid (fun w' (hb : Below w.heap.size w w') => leaf_ent w' k b l (hnd.bel hb) hl1 k1 k16)
  obtain ⟨va, kp, hh⟩ := hnd.hd
  obtain ⟨hpl, hpo, _⟩ := hnd.pre_ok
  have HNE := hnd.ne
  have hnl : 0 < l.length := List.length_pos_iff.2 HNE
  obtain ⟨u, c1, hu⟩ := hh.c1
  have HUP := Lib.hid (And.intro hu hpl)
  obtain ⟨A0, c0, rfl, _⟩ := RdU.point hu
  have HRS := Lib.hid (fun w' (hb : Below w.heap.size w w') => rShape_nd hnd.tn w w' v hv0 hb he)
  have HRU := Lib.hid (fun w' (hb : Below w.heap.size w w') => rSums_any w' l v (hv0.below hb) hnd.vals he.short)
  have HK := Lib.hid (fun w' (hb : Below w.heap.size w w') => nk_any w' b k A0 c0 (by have := Below.keeps hb _ _ c1; rw [hpl] at this; exact this))
  have HSH := Lib.hid (fun w' (hb : Below w.heap.size w w') => nshape_any w' k b l (hnd.bel hb) k1 k16)
  have HSS := Lib.hid (fun w' x y (hx : ShR w' x (shL l)) (hy : ShR w' y (shL l)) => rSameShape w' x y (shL l) hx hy (by rw [hnd.tn.sh_pre, hpl]; omega) (Nat.le_trans (hnd.tn.sh_pl) (by have := he.short; omega)))
  have HNS := Lib.hid (fun w' (hb : Below w.heap.size w w') => nsums_any w' b _ _ _ _ _ (hh.keep hb))
  have HLV := Lib.hid (fun w' (hb : Below w.heap.size w w') => nlev_any w' b _ (Below.keeps hb _ _ hh.c0))
  have HPF := Lib.hid (fun w' (hb : Below w.heap.size w w') => npref_any w' b (preL l) _ (Below.keeps hb _ _ c1) (hu.below hb) (by rw [hpl]; exact k1) (by rw [hpl]; exact k16))
  have HSA := Lib.hid (fun w' u u2 (h1 : RdU w' u (pti (preL l))) (h2 : RdU w' u2 (pti (shL l).pre)) => (Same_any u u2 _ _ w' h1 h2 (by unfold pti; rw [List.length_map, hpl]; omega)).mono fun e w'' ⟨q1, q2⟩ => (⟨by rw [q1, hnd.tn.sh_pre, decide_eq_true rfl], q2.elim fun n hn => hn ▸ drewN_below _ _⟩ : e = Ending.returned (.bool true) ∧ Below w'.heap.size w' w''))
  have hlv : (shL l).lv = (lev l : Int) - 1 := hnd.tn.sh_lv
  rw [← hlv] at HLV
  obtain ⟨A, c, rfl, _, hx⟩ := hv0
  obtain ⟨b2, o2, rfl, hc⟩ := hx hnl
  obtain ⟨ux, k0, kux, k1'⟩ := hc 0 hnl
  have e0 : l[0].p.length = k := he.et.len _ (List.getElem_mem hnl)
  simp only [Nat.zero_mul, Nat.add_zero] at k0 k1'
  have HV0 := Lib.hid (And.intro kux (And.intro k0 k1'))
  obtain ⟨Ax, cx, rfl, _⟩ := RdU.point kux
  rw [e0] at k0 HV0
  have HPL := Lib.hid e0
  clear e0
  have hsn := sums_neq (sumsL l)
  have hsg := sums_grd (sumsL l)
  have hfd0 : ∀ (z : Int) (u p : Value) (d : Bool) (x : Int) (w : World), (Instr.field 115 (.agg #[.int .i64 z, u, p, .bool d, .int .u64 x]) 0).run Tryz.prog w = .ok (.int .i64 z) w := fun _ _ _ _ _ _ => by kernel_rfl
  have hfd1 : ∀ (z : Int) (A : Option Addr) (n c : Nat) (p : Value) (d : Bool) (x : Int) (w : World), (Instr.field 115 (.agg #[.int .i64 z, .slice A n c, p, .bool d, .int .u64 x]) 1).run Tryz.prog w = .ok (.slice A n c) w := fun _ _ _ _ _ _ _ _ => by kernel_rfl
  have hnn : (0 : Int) < (l.length : Int) := by omega
  have hlz := World.block_lt_of_cell? w _ k0
  have ne0 : ((k : Int) != (k : Int)) = false := by simp
  have ne1 : ((shL l).lv != (shL l).lv) = false := by simp
  clear c1 hu hh hpo hlv HUP kux

  have HS2 := Lib.hid (fun w' u u2 (h1 : RdU w' u (pti l[0].p)) (h2 : RdU w' u2 (pti l[0].p)) => (Same_any u u2 _ _ w' h1 h2 (by unfold pti; rw [List.length_map, HPL.out]; omega)).mono fun e w'' ⟨q1, q2⟩ => (⟨by rw [q1, decide_eq_true rfl], q2.elim fun n hn => hn ▸ drewN_below _ _⟩ : e = Ending.returned (.bool true) ∧ Below w'.heap.size w' w''))
  clear hnd HNE he k1 k16 hpl hc hx
  rw [hl1] at *
  generalize shL l = SL at *
  generalize sumsL l = SM at *
  generalize (l[0]) = en at *
  have HBO := Lib.hid (Below.refl w.heap.size w)
  go_enter Tryz.func66, Tryz.ntmps66
  go_wp2_with fail
  refine (HEN.out _ (Below.refl _ _)).mono ?_
  rintro e ww1 ⟨u1, rfl, hpt, hb9⟩
  have hs9 : Below w.heap.size w ww1 := below_trans (by repeat (first | exact Below.refl _ _ | (refine Below.drew ?_) | (refine below_drewN' ?_ _) | (refine below_alloc' ?_ _) | (refine Below.setCell ?_ (by first | exact Nat.le_refl _ | (simp; done) | (simp; omega)) _))) hb9
  replace HBO := Lib.hid (HBO.out.trans ((hs9).mono HBO.out.size))
  obtain ⟨A1, c1, rfl, _⟩ := RdU.point hpt.rd
  have HPT := Lib.hid hpt
  clear hpt
  rw [HPL.out] at HPT ⊢
  clear hs9 hb9
  go_wp2_with fail
  refine (HK.out _ (by repeat (first | exact HBO.out | (refine Below.drew ?_) | (refine below_drewN' ?_ _) | (refine below_alloc' ?_ _) | (refine Below.setCell ?_ (by first | exact Nat.le_refl _ | (have := HBO.out.size; simp; omega) | (have := HBO.out.size; omega)) _)))).mono ?_
  rintro e w9 ⟨rfl, hw9⟩
  obtain rfl := hw9.symm
  clear hw9
  go_wp2_with fail
  refine (HSH.out _ (by repeat (first | exact HBO.out | (refine Below.drew ?_) | (refine below_drewN' ?_ _) | (refine below_alloc' ?_ _) | (refine Below.setCell ?_ (by first | exact Nat.le_refl _ | (have := HBO.out.size; simp; omega) | (have := HBO.out.size; omega)) _)))).mono ?_
  rintro e ww2 ⟨x1, rfl, hx1, hb9⟩
  have hs9 : Below ww1.heap.size ww1 ww2 := below_trans (by repeat (first | exact Below.refl _ _ | (refine Below.drew ?_) | (refine below_drewN' ?_ _) | (refine below_alloc' ?_ _) | (refine Below.setCell ?_ (by first | exact Nat.le_refl _ | (simp; done) | (simp; omega)) _))) hb9
  replace HBO := Lib.hid (HBO.out.trans ((hs9).mono HBO.out.size))
  replace HPT := Lib.hid (HPT.out.below (hs9))
  have HE := Lib.hid (show ww2.heap[ww1.heap.size]? = some (.cells #[.slice A1 k c1, .int .u64 (en.v : Nat)] 51 (0, 0)) from (hb9.block _ (by simp)).trans (alloc_blk _ _))
  have HX1 := Lib.hid hx1.rd
  obtain ⟨u2, p2, rfl, _, _⟩ := hx1.ex
  clear hx1
  clear hs9 hb9
  go_wp2_with fail
  refine (HRS.out _ (by repeat (first | exact HBO.out | (refine Below.drew ?_) | (refine below_drewN' ?_ _) | (refine below_alloc' ?_ _) | (refine Below.setCell ?_ (by first | exact Nat.le_refl _ | (have := HBO.out.size; simp; omega) | (have := HBO.out.size; omega)) _)))).mono ?_
  rintro e ww3 ⟨x2, rfl, hx2, hb9⟩
  have hs9 : Below ww2.heap.size ww2 ww3 := below_trans (by repeat (first | exact Below.refl _ _ | (refine Below.drew ?_) | (refine below_drewN' ?_ _) | (refine below_alloc' ?_ _) | (refine Below.setCell ?_ (by first | exact Nat.le_refl _ | (simp; done) | (simp; omega)) _))) hb9
  replace HBO := Lib.hid (HBO.out.trans ((hs9).mono HBO.out.size))
  replace HPT := Lib.hid (HPT.out.below (hs9))
  replace HE := Lib.hid (((hs9).block _ (kr_lt HE.out)).trans HE.out)
  replace HX1 := Lib.hid (HX1.out.below (hs9))
  have HX2 := Lib.hid (hx2.rd hb9)
  obtain ⟨u3, p3, rfl, _⟩ := hx2.pt
  clear hx2
  clear hs9 hb9
  go_wp2_with fail
  refine (HSS.out _ _ _ (HX1.out.below (by repeat (first | exact Below.refl _ _ | (refine Below.drew ?_) | (refine below_drewN' ?_ _) | (refine below_alloc' ?_ _) | (refine Below.setCell ?_ (by first | exact Nat.le_refl _ | (simp; done) | (simp; omega)) _)))) (HX2.out.below (by repeat (first | exact Below.refl _ _ | (refine Below.drew ?_) | (refine below_drewN' ?_ _) | (refine below_alloc' ?_ _) | (refine Below.setCell ?_ (by first | exact Nat.le_refl _ | (simp; done) | (simp; omega)) _))))).mono ?_
  rintro e ww4 ⟨rfl, hb9⟩
  have hs9 : Below ww3.heap.size ww3 ww4 := below_trans (by repeat (first | exact Below.refl _ _ | (refine Below.drew ?_) | (refine below_drewN' ?_ _) | (refine below_alloc' ?_ _) | (refine Below.setCell ?_ (by first | exact Nat.le_refl _ | (simp; done) | (simp; omega)) _))) hb9
  replace HBO := Lib.hid (HBO.out.trans ((hs9).mono HBO.out.size))
  replace HPT := Lib.hid (HPT.out.below (hs9))
  replace HE := Lib.hid (((hs9).block _ (kr_lt HE.out)).trans HE.out)
  replace HX1 := Lib.hid (HX1.out.below (hs9))
  clear hs9 hb9
  go_wp2_with fail
  clear HX1 HX2
  refine (HNS.out _ (by repeat (first | exact HBO.out | (refine Below.drew ?_) | (refine below_drewN' ?_ _) | (refine below_alloc' ?_ _) | (refine Below.setCell ?_ (by first | exact Nat.le_refl _ | (have := HBO.out.size; simp; omega) | (have := HBO.out.size; omega)) _)))).mono ?_
  rintro e ww5 ⟨rfl, hb9⟩
  have hs9 : Below ww4.heap.size ww4 ww5 := below_trans (by repeat (first | exact Below.refl _ _ | (refine Below.drew ?_) | (refine below_drewN' ?_ _) | (refine below_alloc' ?_ _) | (refine Below.setCell ?_ (by first | exact Nat.le_refl _ | (simp; done) | (simp; omega)) _))) hb9
  replace HBO := Lib.hid (HBO.out.trans ((hs9).mono HBO.out.size))
  replace HPT := Lib.hid (HPT.out.below (hs9))
  replace HE := Lib.hid (((hs9).block _ (kr_lt HE.out)).trans HE.out)
  clear hs9 hb9
  go_wp2_with fail
  refine (HRU.out _ (by repeat (first | exact HBO.out | (refine Below.drew ?_) | (refine below_drewN' ?_ _) | (refine below_alloc' ?_ _) | (refine Below.setCell ?_ (by first | exact Nat.le_refl _ | (have := HBO.out.size; simp; omega) | (have := HBO.out.size; omega)) _)))).mono ?_
  rintro e ww6 ⟨rfl, hb9⟩
  have hs9 : Below ww5.heap.size ww5 ww6 := below_trans (by repeat (first | exact Below.refl _ _ | (refine Below.drew ?_) | (refine below_drewN' ?_ _) | (refine below_alloc' ?_ _) | (refine Below.setCell ?_ (by first | exact Nat.le_refl _ | (simp; done) | (simp; omega)) _))) hb9
  replace HBO := Lib.hid (HBO.out.trans ((hs9).mono HBO.out.size))
  replace HPT := Lib.hid (HPT.out.below (hs9))
  replace HE := Lib.hid (((hs9).block _ (kr_lt HE.out)).trans HE.out)
  clear hs9 hb9
  go_wp2_with fail
  refine (HLV.out _ (by repeat (first | exact HBO.out | (refine Below.drew ?_) | (refine below_drewN' ?_ _) | (refine below_alloc' ?_ _) | (refine Below.setCell ?_ (by first | exact Nat.le_refl _ | (have := HBO.out.size; simp; omega) | (have := HBO.out.size; omega)) _)))).mono ?_
  rintro e w9 ⟨rfl, hw9⟩
  obtain rfl := hw9.symm
  clear hw9
  go_wp2_with fail
  refine (HRS.out _ (by repeat (first | exact HBO.out | (refine Below.drew ?_) | (refine below_drewN' ?_ _) | (refine below_alloc' ?_ _) | (refine Below.setCell ?_ (by first | exact Nat.le_refl _ | (have := HBO.out.size; simp; omega) | (have := HBO.out.size; omega)) _)))).mono ?_
  rintro e ww7 ⟨x2, rfl, hx2, hb9⟩
  have hs9 : Below ww6.heap.size ww6 ww7 := below_trans (by repeat (first | exact Below.refl _ _ | (refine Below.drew ?_) | (refine below_drewN' ?_ _) | (refine below_alloc' ?_ _) | (refine Below.setCell ?_ (by first | exact Nat.le_refl _ | (simp; done) | (simp; omega)) _))) hb9
  replace HBO := Lib.hid (HBO.out.trans ((hs9).mono HBO.out.size))
  replace HPT := Lib.hid (HPT.out.below (hs9))
  replace HE := Lib.hid (((hs9).block _ (kr_lt HE.out)).trans HE.out)
  obtain ⟨u4, p4, rfl, _⟩ := hx2.pt
  clear hx2
  clear hs9 hb9
  go_wp2_with fail
  refine (HPF.out _ (by repeat (first | exact HBO.out | (refine Below.drew ?_) | (refine below_drewN' ?_ _) | (refine below_alloc' ?_ _) | (refine Below.setCell ?_ (by first | exact Nat.le_refl _ | (have := HBO.out.size; simp; omega) | (have := HBO.out.size; omega)) _)))).mono ?_
  rintro e ww8 ⟨u5, rfl, hp5, hb9⟩
  have hs9 : Below ww7.heap.size ww7 ww8 := below_trans (by repeat (first | exact Below.refl _ _ | (refine Below.drew ?_) | (refine below_drewN' ?_ _) | (refine below_alloc' ?_ _) | (refine Below.setCell ?_ (by first | exact Nat.le_refl _ | (simp; done) | (simp; omega)) _))) hb9
  replace HBO := Lib.hid (HBO.out.trans ((hs9).mono HBO.out.size))
  replace HPT := Lib.hid (HPT.out.below (hs9))
  replace HE := Lib.hid (((hs9).block _ (kr_lt HE.out)).trans HE.out)
  obtain ⟨A5, c5, rfl, _⟩ := RdU.point hp5.rd
  have HP5 := Lib.hid hp5.rd
  clear hp5
  clear hs9 hb9
  go_wp2_with fail
  refine (HRS.out _ (by repeat (first | exact HBO.out | (refine Below.drew ?_) | (refine below_drewN' ?_ _) | (refine below_alloc' ?_ _) | (refine Below.setCell ?_ (by first | exact Nat.le_refl _ | (have := HBO.out.size; simp; omega) | (have := HBO.out.size; omega)) _)))).mono ?_
  rintro e ww9 ⟨x2, rfl, hx2, hb9⟩
  have hs9 : Below ww8.heap.size ww8 ww9 := below_trans (by repeat (first | exact Below.refl _ _ | (refine Below.drew ?_) | (refine below_drewN' ?_ _) | (refine below_alloc' ?_ _) | (refine Below.setCell ?_ (by first | exact Nat.le_refl _ | (simp; done) | (simp; omega)) _))) hb9
  replace HBO := Lib.hid (HBO.out.trans ((hs9).mono HBO.out.size))
  replace HPT := Lib.hid (HPT.out.below (hs9))
  replace HE := Lib.hid (((hs9).block _ (kr_lt HE.out)).trans HE.out)
  replace HP5 := Lib.hid (HP5.out.below (hs9))
  have HX2 := Lib.hid (hx2.rd hb9)
  obtain ⟨u6, p6, rfl, hpt6⟩ := hx2.pt
  have HP6 := Lib.hid (hpt6.1.elim (·.below hb9) (·.rd))
  clear hx2 hpt6 HX2
  obtain ⟨A6, c6, rfl, _⟩ := RdU.point HP6.out
  clear hs9 hb9
  go_wp2_with fail
  refine (HSA.out _ _ _ (HP5.out.below (by repeat (first | exact Below.refl _ _ | (refine Below.drew ?_) | (refine below_drewN' ?_ _) | (refine below_alloc' ?_ _) | (refine Below.setCell ?_ (by first | exact Nat.le_refl _ | (simp; done) | (simp; omega)) _)))) (HP6.out.below (by repeat (first | exact Below.refl _ _ | (refine Below.drew ?_) | (refine below_drewN' ?_ _) | (refine below_alloc' ?_ _) | (refine Below.setCell ?_ (by first | exact Nat.le_refl _ | (simp; done) | (simp; omega)) _))))).mono ?_
  rintro e ww10 ⟨rfl, hb9⟩
  have hs9 : Below ww9.heap.size ww9 ww10 := below_trans (by repeat (first | exact Below.refl _ _ | (refine Below.drew ?_) | (refine below_drewN' ?_ _) | (refine below_alloc' ?_ _) | (refine Below.setCell ?_ (by first | exact Nat.le_refl _ | (simp; done) | (simp; omega)) _))) hb9
  replace HBO := Lib.hid (HBO.out.trans ((hs9).mono HBO.out.size))
  replace HPT := Lib.hid (HPT.out.below (hs9))
  replace HE := Lib.hid (((hs9).block _ (kr_lt HE.out)).trans HE.out)
  replace HP5 := Lib.hid (HP5.out.below (hs9))
  replace HP6 := Lib.hid (HP6.out.below (hs9))
  clear HP5 HP6
  clear hs9 hb9
  have f0 : ww10.cell? ⟨ww1.heap.size, 0, none⟩ = some (.slice A1 k c1) := by simp [World.cell?, HE.out]
  have f1 : ww10.cell? ⟨ww1.heap.size, 1, none⟩ = some (.int .u64 (en.v : Nat)) := by simp [World.cell?, HE.out]
  have hE := kr_lt HE.out
  have g0 := Below.keeps HBO.out _ _ k0
  have g1 := Below.keeps HBO.out _ _ k1'
  have hb2 := World.block_lt_of_cell? _ _ g0
  go_wp2_with fail
  refine wp_region_vals 16 [fun z9 _ => z9 = .pointer (some ⟨ww1.heap.size, 1, none⟩),
    fun z9 _ => z9 = .int .u64 (en.v : Nat),
    fun z9 _ => z9 = .slice (some ⟨b2, o2, none⟩) 1 c,
    fun z9 _ => z9 = .pointer (some ⟨b2, o2, none⟩),
    fun z9 _ => z9 = .pointer (some ⟨b2, o2 + 1, none⟩),
    fun z9 _ => z9 = .int .u64 (en.v : Nat),
    fun z9 _ => z9 = .bool true,
    fun z9 _ => z9 = .bool true,
    fun z9 _ => z9 = .pointer (some ⟨ww1.heap.size, 0, none⟩),
    fun z9 _ => z9 = .slice A1 k c1,
    fun z9 _ => z9 = .slice (some ⟨b2, o2, none⟩) 1 c,
    fun z9 _ => z9 = .pointer (some ⟨b2, o2, none⟩),
    fun z9 _ => z9 = .pointer (some ⟨b2, o2, none⟩),
    fun z9 _ => z9 = .slice Ax k cx,
    fun z9 _ => z9 = .bool true,
    fun z9 _ => z9 = .bool true]
    (by kernel_rfl) (by kernel_rfl) (by kernel_rfl) (by kernel_rfl) ?_ ?_ ?_
  · intro V hV v w1 w2 h hb
    simp only [List.mem_cons, List.not_mem_nil, or_false] at hV
    rcases hV with rfl | rfl | rfl | rfl | rfl | rfl | rfl | rfl | rfl | rfl | rfl | rfl | rfl | rfl | rfl | rfl
    all_goals first | exact h | (exact h)
  · intro iq oq hiq hoq
    match iq, hiq with
    | 0, _ =>
    obtain rfl := Option.some.inj hoq
    intro a1 w1 K hk hK
    have e6 : a1.tmps.getD 6 undef = .pointer (some ⟨ww1.heap.size, 0, none⟩) := hk.same 6 (by simp)
    simp [Region.wanted, Oper.wp, Act.eval, go_sem, e6, f0, f1, g0, g1, hE, hb2]
    exact hK _ _ (Below.refl _ _) rfl
    | 1, _ =>
    obtain rfl := Option.some.inj hoq
    intro a1 w1 K hk hK
    have d68 : a1.tmps.getD 68 undef = .pointer (some ⟨ww1.heap.size, 1, none⟩) := hk.deps ⟨0, .data⟩ (by simp) rfl _ _ rfl rfl
    have c0 : w1.cell? ⟨ww1.heap.size, 0, none⟩ = some (.slice A1 k c1) := Below.keeps hk.ext _ _ (by simp [go_sem, f0, f1, g0, g1, hE, hb2])
    have c1 : w1.cell? ⟨ww1.heap.size, 1, none⟩ = some (.int .u64 (en.v : Nat)) := Below.keeps hk.ext _ _ (by simp [go_sem, f0, f1, g0, g1, hE, hb2])
    have c2 : w1.cell? ⟨b2, o2, none⟩ = some (.slice Ax k cx) := Below.keeps hk.ext _ _ (by simp [go_sem, f0, f1, g0, g1, hE, hb2])
    have c3 : w1.cell? ⟨b2, o2 + 1, none⟩ = some (.int .u64 (en.v : Nat)) := Below.keeps hk.ext _ _ (by simp [go_sem, f0, f1, g0, g1, hE, hb2])
    simp [Region.wanted, Oper.wp, Act.eval, go_sem, d68, c0, c1, c2, c3, f0, f1, g0, g1, hE, hb2]
    exact hK _ _ (Below.refl _ _) rfl
    | 2, _ =>
    obtain rfl := Option.some.inj hoq
    intro a1 w1 K hk hK
    have e1 : a1.tmps.getD 1 undef = .slice (some ⟨b2, o2, none⟩) 1 c := hk.same 1 (by simp)
    simp [Region.wanted, Oper.wp, Act.eval, go_sem, e1, f0, f1, g0, g1, hE, hb2]
    exact hK _ _ (Below.refl _ _) rfl
    | 3, _ =>
    obtain rfl := Option.some.inj hoq
    intro a1 w1 K hk hK
    have d70 : a1.tmps.getD 70 undef = .slice (some ⟨b2, o2, none⟩) 1 c := hk.deps ⟨2, .data⟩ (by simp) rfl _ _ rfl rfl
    simp [Region.wanted, Oper.wp, Act.eval, go_sem, d70, f0, f1, g0, g1, hE, hb2]
    exact hK _ _ (Below.refl _ _) rfl
    | 4, _ =>
    obtain rfl := Option.some.inj hoq
    intro a1 w1 K hk hK
    have d71 : a1.tmps.getD 71 undef = .pointer (some ⟨b2, o2, none⟩) := hk.deps ⟨3, .data⟩ (by simp) rfl _ _ rfl rfl
    simp [Region.wanted, Oper.wp, Act.eval, go_sem, d71, f0, f1, g0, g1, hE, hb2]
    exact hK _ _ (Below.refl _ _) rfl
    | 5, _ =>
    obtain rfl := Option.some.inj hoq
    intro a1 w1 K hk hK
    have d72 : a1.tmps.getD 72 undef = .pointer (some ⟨b2, o2 + 1, none⟩) := hk.deps ⟨4, .data⟩ (by simp) rfl _ _ rfl rfl
    have c0 : w1.cell? ⟨ww1.heap.size, 0, none⟩ = some (.slice A1 k c1) := Below.keeps hk.ext _ _ (by simp [go_sem, f0, f1, g0, g1, hE, hb2])
    have c1 : w1.cell? ⟨ww1.heap.size, 1, none⟩ = some (.int .u64 (en.v : Nat)) := Below.keeps hk.ext _ _ (by simp [go_sem, f0, f1, g0, g1, hE, hb2])
    have c2 : w1.cell? ⟨b2, o2, none⟩ = some (.slice Ax k cx) := Below.keeps hk.ext _ _ (by simp [go_sem, f0, f1, g0, g1, hE, hb2])
    have c3 : w1.cell? ⟨b2, o2 + 1, none⟩ = some (.int .u64 (en.v : Nat)) := Below.keeps hk.ext _ _ (by simp [go_sem, f0, f1, g0, g1, hE, hb2])
    simp [Region.wanted, Oper.wp, Act.eval, go_sem, d72, c0, c1, c2, c3, f0, f1, g0, g1, hE, hb2]
    exact hK _ _ (Below.refl _ _) rfl
    | 6, _ =>
    obtain rfl := Option.some.inj hoq
    intro a1 w1 K hk hK
    have d69 : a1.tmps.getD 69 undef = .int .u64 (en.v : Nat) := hk.deps ⟨1, .data⟩ (by simp) rfl _ _ rfl rfl
    have d73 : a1.tmps.getD 73 undef = .int .u64 (en.v : Nat) := hk.deps ⟨5, .data⟩ (by simp) rfl _ _ rfl rfl
    simp [Region.wanted, Oper.wp, Act.eval, go_sem, d69, d73, f0, f1, g0, g1, hE, hb2]
    exact hK _ _ (Below.refl _ _) rfl
    | 7, _ =>
    obtain rfl := Option.some.inj hoq
    intro a1 w1 K hk hK
    have d74 : a1.tmps.getD 74 undef = .bool true := hk.deps ⟨6, .data⟩ (by simp) rfl _ _ rfl rfl
    simp [Region.wanted, Oper.wp, Act.eval, go_sem, d74, f0, f1, g0, g1, hE, hb2]
    exact hK _ _ (Below.refl _ _) rfl
    | 8, _ =>
    obtain rfl := Option.some.inj hoq
    intro a1 w1 K hk hK
    have e6 : a1.tmps.getD 6 undef = .pointer (some ⟨ww1.heap.size, 0, none⟩) := hk.same 6 (by simp)
    have gd : a1.tmps[75]? = some (.bool true) := getD_bool (hk.deps ⟨7, .guard⟩ (by simp) rfl _ _ rfl rfl)
    simp [Region.wanted, Oper.wp, Act.eval, go_sem, e6, gd, yielded, f0, f1, g0, g1, hE, hb2]
    exact hK _ _ (Below.refl _ _) rfl
    | 9, _ =>
    obtain rfl := Option.some.inj hoq
    intro a1 w1 K hk hK
    have d76 : a1.tmps.getD 76 undef = .pointer (some ⟨ww1.heap.size, 0, none⟩) := hk.deps ⟨8, .data⟩ (by simp) rfl _ _ rfl rfl
    have gd : a1.tmps[75]? = some (.bool true) := getD_bool (hk.deps ⟨7, .guard⟩ (by simp) rfl _ _ rfl rfl)
    have c0 : w1.cell? ⟨ww1.heap.size, 0, none⟩ = some (.slice A1 k c1) := Below.keeps hk.ext _ _ (by simp [go_sem, f0, f1, g0, g1, hE, hb2])
    have c1 : w1.cell? ⟨ww1.heap.size, 1, none⟩ = some (.int .u64 (en.v : Nat)) := Below.keeps hk.ext _ _ (by simp [go_sem, f0, f1, g0, g1, hE, hb2])
    have c2 : w1.cell? ⟨b2, o2, none⟩ = some (.slice Ax k cx) := Below.keeps hk.ext _ _ (by simp [go_sem, f0, f1, g0, g1, hE, hb2])
    have c3 : w1.cell? ⟨b2, o2 + 1, none⟩ = some (.int .u64 (en.v : Nat)) := Below.keeps hk.ext _ _ (by simp [go_sem, f0, f1, g0, g1, hE, hb2])
    simp [Region.wanted, Oper.wp, Act.eval, go_sem, d76, gd, yielded, c0, c1, c2, c3, f0, f1, g0, g1, hE, hb2]
    exact hK _ _ (Below.refl _ _) rfl
    | 10, _ =>
    obtain rfl := Option.some.inj hoq
    intro a1 w1 K hk hK
    have e1 : a1.tmps.getD 1 undef = .slice (some ⟨b2, o2, none⟩) 1 c := hk.same 1 (by simp)
    have gd : a1.tmps[75]? = some (.bool true) := getD_bool (hk.deps ⟨7, .guard⟩ (by simp) rfl _ _ rfl rfl)
    simp [Region.wanted, Oper.wp, Act.eval, go_sem, e1, gd, yielded, f0, f1, g0, g1, hE, hb2]
    exact hK _ _ (Below.refl _ _) rfl
    | 11, _ =>
    obtain rfl := Option.some.inj hoq
    intro a1 w1 K hk hK
    have d78 : a1.tmps.getD 78 undef = .slice (some ⟨b2, o2, none⟩) 1 c := hk.deps ⟨10, .data⟩ (by simp) rfl _ _ rfl rfl
    have gd : a1.tmps[75]? = some (.bool true) := getD_bool (hk.deps ⟨7, .guard⟩ (by simp) rfl _ _ rfl rfl)
    simp [Region.wanted, Oper.wp, Act.eval, go_sem, d78, gd, yielded, f0, f1, g0, g1, hE, hb2]
    exact hK _ _ (Below.refl _ _) rfl
    | 12, _ =>
    obtain rfl := Option.some.inj hoq
    intro a1 w1 K hk hK
    have d79 : a1.tmps.getD 79 undef = .pointer (some ⟨b2, o2, none⟩) := hk.deps ⟨11, .data⟩ (by simp) rfl _ _ rfl rfl
    have gd : a1.tmps[75]? = some (.bool true) := getD_bool (hk.deps ⟨7, .guard⟩ (by simp) rfl _ _ rfl rfl)
    simp [Region.wanted, Oper.wp, Act.eval, go_sem, d79, gd, yielded, f0, f1, g0, g1, hE, hb2]
    exact hK _ _ (Below.refl _ _) rfl
    | 13, _ =>
    obtain rfl := Option.some.inj hoq
    intro a1 w1 K hk hK
    have d80 : a1.tmps.getD 80 undef = .pointer (some ⟨b2, o2, none⟩) := hk.deps ⟨12, .data⟩ (by simp) rfl _ _ rfl rfl
    have gd : a1.tmps[75]? = some (.bool true) := getD_bool (hk.deps ⟨7, .guard⟩ (by simp) rfl _ _ rfl rfl)
    have c0 : w1.cell? ⟨ww1.heap.size, 0, none⟩ = some (.slice A1 k c1) := Below.keeps hk.ext _ _ (by simp [go_sem, f0, f1, g0, g1, hE, hb2])
    have c1 : w1.cell? ⟨ww1.heap.size, 1, none⟩ = some (.int .u64 (en.v : Nat)) := Below.keeps hk.ext _ _ (by simp [go_sem, f0, f1, g0, g1, hE, hb2])
    have c2 : w1.cell? ⟨b2, o2, none⟩ = some (.slice Ax k cx) := Below.keeps hk.ext _ _ (by simp [go_sem, f0, f1, g0, g1, hE, hb2])
    have c3 : w1.cell? ⟨b2, o2 + 1, none⟩ = some (.int .u64 (en.v : Nat)) := Below.keeps hk.ext _ _ (by simp [go_sem, f0, f1, g0, g1, hE, hb2])
    simp [Region.wanted, Oper.wp, Act.eval, go_sem, d80, gd, yielded, c0, c1, c2, c3, f0, f1, g0, g1, hE, hb2]
    exact hK _ _ (Below.refl _ _) rfl
    | 14, _ =>
    obtain rfl := Option.some.inj hoq
    intro a1 w1 K hk hK
    have d77 : a1.tmps.getD 77 undef = .slice A1 k c1 := hk.deps ⟨9, .data⟩ (by simp) rfl _ _ rfl rfl
    have d81 : a1.tmps.getD 81 undef = .slice Ax k cx := hk.deps ⟨13, .data⟩ (by simp) rfl _ _ rfl rfl
    have gd : a1.tmps[75]? = some (.bool true) := getD_bool (hk.deps ⟨7, .guard⟩ (by simp) rfl _ _ rfl rfl)
    simp [Region.wanted, Oper.wp, Act.eval, go_sem, d77, d81, gd, yielded, f0, f1, g0, g1, hE, hb2]
    refine (HS2.out _ _ _ (HPT.out.rd.below (below_trans (by repeat (first | exact Below.refl _ _ | (refine Below.drew ?_) | (refine below_drewN' ?_ _) | (refine below_alloc' ?_ _) | (refine Below.setCell ?_ (by first | exact Nat.le_refl _ | (simp; done) | (simp; omega)) _))) hk.ext)) (HV0.out.1.below (below_trans (by repeat (first | exact HBO.out | (refine Below.drew ?_) | (refine below_drewN' ?_ _) | (refine below_alloc' ?_ _) | (refine Below.setCell ?_ (by first | exact Nat.le_refl _ | (have := HBO.out.size; simp; omega) | (have := HBO.out.size; omega)) _))) hk.ext))).mono ?_
    rintro e w9 ⟨rfl, hb9⟩
    exact hK _ _ hb9 rfl
    | 15, _ =>
    obtain rfl := Option.some.inj hoq
    intro a1 w1 K hk hK
    have d75 : a1.tmps.getD 75 undef = .bool true := hk.deps ⟨7, .data⟩ (by simp) rfl _ _ rfl rfl
    have d82 : a1.tmps.getD 82 undef = .bool true := hk.deps ⟨14, .data⟩ (by simp) rfl _ _ rfl rfl
    simp [Region.wanted, Oper.wp, Act.eval, go_sem, d75, d82, f0, f1, g0, g1, hE, hb2]
    exact hK _ _ (Below.refl _ _) rfl
    | k + 16, hk => exact absurd hk (by omega)
  · intro vs w3 hl hb3 hv
    match vs, hl with
    | [v0, v1, v2, v3, v4, v5, v6, v7, v8, v9, v10, v11, v12, v13, v14, v15], _ =>
    obtain rfl : v0 = .pointer (some ⟨ww1.heap.size, 1, none⟩) := hv 0 (by omega)
    obtain rfl : v1 = .int .u64 (en.v : Nat) := hv 1 (by omega)
    obtain rfl : v2 = .slice (some ⟨b2, o2, none⟩) 1 c := hv 2 (by omega)
    obtain rfl : v3 = .pointer (some ⟨b2, o2, none⟩) := hv 3 (by omega)
    obtain rfl : v4 = .pointer (some ⟨b2, o2 + 1, none⟩) := hv 4 (by omega)
    obtain rfl : v5 = .int .u64 (en.v : Nat) := hv 5 (by omega)
    obtain rfl : v6 = .bool true := hv 6 (by omega)
    obtain rfl : v7 = .bool true := hv 7 (by omega)
    obtain rfl : v8 = .pointer (some ⟨ww1.heap.size, 0, none⟩) := hv 8 (by omega)
    obtain rfl : v9 = .slice A1 k c1 := hv 9 (by omega)
    obtain rfl : v10 = .slice (some ⟨b2, o2, none⟩) 1 c := hv 10 (by omega)
    obtain rfl : v11 = .pointer (some ⟨b2, o2, none⟩) := hv 11 (by omega)
    obtain rfl : v12 = .pointer (some ⟨b2, o2, none⟩) := hv 12 (by omega)
    obtain rfl : v13 = .slice Ax k cx := hv 13 (by omega)
    obtain rfl : v14 = .bool true := hv 14 (by omega)
    obtain rfl : v15 = .bool true := hv 15 (by omega)
    clear hv
    simp only [putAll, List.take_succ_cons, List.take_zero, List.drop_succ_cons, List.drop_zero, Act.put, List.setIfInBounds_toArray, List.set_cons_succ, List.set_cons_zero]
    clear f0 f1 g0 g1
    have HF := Lib.hid (below_trans (by repeat (first | exact HBO.out | (refine Below.drew ?_) | (refine below_drewN' ?_ _) | (refine below_alloc' ?_ _) | (refine Below.setCell ?_ (by first | exact Nat.le_refl _ | (have := HBO.out.size; simp; omega) | (have := HBO.out.size; omega)) _))) hb3)
    clear hb3
    go_wp2_with fail
    go_ret
    exact ⟨rfl, HF.out⟩
set_option maxHeartbeats 4000000 in
theorem is06_node (w : World) (k b s n : Nat) (pre : List Nat) (ks : List (Nat × Nat × List En)) (l : List En) (v : Value) (hlk : l = cat (ks.map kl)) (hnd : Nd w k b l) (y3 : w.cell? ⟨b, 3, none⟩ = some (.pointer (some ⟨s, 0, none⟩))) (hs : SlR w s k (ks.map kb)) (hkd : Kd k n pre (ks.map kl))
    (ih : ∀ x ∈ ks, ∀ (w1 : World) (v : Value), Below w.heap.size w w1 → RdE w1 v x.2.2 → EtS k x.2.2 → Calls Tryz.prog 66 #[.pointer (some ⟨x.2.1, 0, none⟩), v] w1 fun e w' => e = .returned (.bool true) ∧ Below w1.heap.size w1 w')
    (hv0 : RdE w v l) (he : EtS k l) (k1 : 1 ≤ k) (k16 : k ≤ 16) :
    Calls Tryz.prog 66 #[.pointer (some ⟨b, 0, none⟩), v] w fun e w' => e = .returned (.bool true) ∧ Below w.heap.size w w' := by
  have HEN := Lib.hid (fun w' (hb : Below w.heap.size w w') => ent_node w' b s (Below.keeps hb _ _ y3))
  have hlev : lev l = n + 1 := by rw [hlk, hkd.lev]
  have hl2 : 2 ≤ l.length := by rw [hlk]; exact hkd.two_le
  have HKS := Lib.hid (fun w' (hb : Below w.heap.size w w') => rKids_any k n l v w w' hv0 hb he hlev (by omega))
  rw [show kidsL l = ks.map (·.2.2) by rw [hlk, hkd.kids, List.map_map]; rfl] at HKS
  obtain ⟨va, kp, hh⟩ := hnd.hd
  obtain ⟨hpl, hpo, _⟩ := hnd.pre_ok
  have HNE := hnd.ne
  have hnl : 0 < l.length := List.length_pos_iff.2 HNE
  obtain ⟨u, c1, hu⟩ := hh.c1
  have HUP := Lib.hid (And.intro hu hpl)
  obtain ⟨A0, c0, rfl, _⟩ := RdU.point hu
  have HRS := Lib.hid (fun w' (hb : Below w.heap.size w w') => rShape_nd hnd.tn w w' v hv0 hb he)
  have HRU := Lib.hid (fun w' (hb : Below w.heap.size w w') => rSums_any w' l v (hv0.below hb) hnd.vals he.short)
  have HK := Lib.hid (fun w' (hb : Below w.heap.size w w') => nk_any w' b k A0 c0 (by have := Below.keeps hb _ _ c1; rw [hpl] at this; exact this))
  have HSH := Lib.hid (fun w' (hb : Below w.heap.size w w') => nshape_any w' k b l (hnd.bel hb) k1 k16)
  have HSS := Lib.hid (fun w' x y (hx : ShR w' x (shL l)) (hy : ShR w' y (shL l)) => rSameShape w' x y (shL l) hx hy (by rw [hnd.tn.sh_pre, hpl]; omega) (Nat.le_trans (hnd.tn.sh_pl) (by have := he.short; omega)))
  have HNS := Lib.hid (fun w' (hb : Below w.heap.size w w') => nsums_any w' b _ _ _ _ _ (hh.keep hb))
  have HLV := Lib.hid (fun w' (hb : Below w.heap.size w w') => nlev_any w' b _ (Below.keeps hb _ _ hh.c0))
  have HPF := Lib.hid (fun w' (hb : Below w.heap.size w w') => npref_any w' b (preL l) _ (Below.keeps hb _ _ c1) (hu.below hb) (by rw [hpl]; exact k1) (by rw [hpl]; exact k16))
  have HSA := Lib.hid (fun w' u u2 (h1 : RdU w' u (pti (preL l))) (h2 : RdU w' u2 (pti (shL l).pre)) => (Same_any u u2 _ _ w' h1 h2 (by unfold pti; rw [List.length_map, hpl]; omega)).mono fun e w'' ⟨q1, q2⟩ => (⟨by rw [q1, hnd.tn.sh_pre, decide_eq_true rfl], q2.elim fun n hn => hn ▸ drewN_below _ _⟩ : e = Ending.returned (.bool true) ∧ Below w'.heap.size w' w''))
  have hlv : (shL l).lv = (lev l : Int) - 1 := hnd.tn.sh_lv
  rw [← hlv] at HLV
  obtain ⟨A, c, rfl, _, hx⟩ := hv0
  obtain ⟨b2, o2, rfl, hc⟩ := hx hnl
  obtain ⟨ux, k0, kux, k1'⟩ := hc 0 hnl
  have e0 : l[0].p.length = k := he.et.len _ (List.getElem_mem hnl)
  simp only [Nat.zero_mul, Nat.add_zero] at k0 k1'
  have HV0 := Lib.hid (And.intro kux (And.intro k0 k1'))
  obtain ⟨Ax, cx, rfl, _⟩ := RdU.point kux
  rw [e0] at k0 HV0
  have HPL := Lib.hid e0
  clear e0
  have hsn := sums_neq (sumsL l)
  have hsg := sums_grd (sumsL l)
  have hfd0 : ∀ (z : Int) (u p : Value) (d : Bool) (x : Int) (w : World), (Instr.field 115 (.agg #[.int .i64 z, u, p, .bool d, .int .u64 x]) 0).run Tryz.prog w = .ok (.int .i64 z) w := fun _ _ _ _ _ _ => by kernel_rfl
  have hfd1 : ∀ (z : Int) (A : Option Addr) (n c : Nat) (p : Value) (d : Bool) (x : Int) (w : World), (Instr.field 115 (.agg #[.int .i64 z, .slice A n c, p, .bool d, .int .u64 x]) 1).run Tryz.prog w = .ok (.slice A n c) w := fun _ _ _ _ _ _ _ _ => by kernel_rfl
  have hnn : (0 : Int) < (l.length : Int) := by omega
  have hlz := World.block_lt_of_cell? w _ k0
  have ne0 : ((k : Int) != (k : Int)) = false := by simp
  have ne1 : ((shL l).lv != (shL l).lv) = false := by simp
  clear c1 hu hh hpo hlv HUP kux

  have hlvn : (shL l).lv = (n : Int) := by rw [hlk, hkd.sh]
  have hk2 := hkd.two
  rw [List.length_map] at hk2
  have hcl : ks.length ≤ l.length ∧ ∀ x ∈ ks, x.2.2.length ≤ l.length := by
    rw [hlk]
    have := cat_length (ks.map kl) hkd.ne
    rw [List.length_map] at this
    refine ⟨this.1, fun x hx => ?_⟩
    have := this.2 (kl x) (List.mem_map_of_mem hx)
    have e : (kl x).2 = x.2.2 := rfl
    rw [e] at this
    omega
  have HIH := Lib.hid (fun j (hj : j < ks.length) w' v' (hb : Below w.heap.size w w') (hr : RdE w' v' ks[j].2.2) => ih ks[j] (List.getElem_mem hj) w' v' hb hr ⟨hkd.et (kl ks[j]) (List.mem_map_of_mem (List.getElem_mem hj)), he.k40, Nat.le_trans (hcl.2 _ (List.getElem_mem hj)) he.short⟩)
  have HKID := Lib.hid (fun j (hj : j < ks.length) w' (hb : Below w.heap.size w w') => (show Calls Tryz.prog 75 #[.pointer (some ⟨b, 0, none⟩), .int .i64 (ks[j].1 : Nat)] w' fun e w'' => e = .returned (pv (some ks[j].2.1)) ∧ Below w'.heap.size w' w'' from by
    have h1 := nkid_any w' b s k (ks.map kb) (ks[j].1 : Nat) (Below.keeps hb _ _ y3) (hs.below hb)
    have e : lookI (ks.map kb) (ks[j].1 : Nat) = some ks[j].2.1 := by
      unfold lookI
      rw [if_neg (by omega), Int.toNat_natCast]
      have := Od.look_mem (key := ka) hs.rw'.asc (x := kb ks[j]) (List.mem_map_of_mem (List.getElem_mem hj))
      rw [show ka (kb ks[j]) = ks[j].1 from rfl] at this
      rw [this]; rfl
    rw [e] at h1
    exact h1))
  have HADR := Lib.hid (fun j (hj : j < ks.length) (hj0 : 0 < ks[j].2.2.length) w' u (hu : RdU w' u (pti ks[j].2.2[0].p)) => (show Calls Tryz.prog 92 #[u, .int .i64 (shL l).lv] w' fun e w'' => e = .returned (.int .i64 (ks[j].1 : Nat)) ∧ Below w'.heap.size w' w'' from by
    have hm := List.mem_map_of_mem (f := kl) (List.getElem_mem hj)
    have he0 : ks[j].2.2[0] ∈ (kl ks[j]).2 := List.getElem_mem hj0
    rw [hlvn]
    refine (rAddr_any _ n u w' hu (by rw [hkd.len hm he0]; omega) (hkd.ok hm he0) hkd.n64).mono ?_
    rintro e w'' ⟨h1, h2⟩
    exact ⟨by rw [h1, hkd.adr _ hm _ he0]; rfl, h2 ▸ Below.refl _ _⟩))
  have HKL := Lib.hid (fun j (hj : j < ks.length) => (show 0 < ks[j].2.2.length ∧ ∀ (h : 0 < ((ks[j]'hj).2.2).length), (((ks[j]'hj).2.2)[0]'h).p.length = k from
    ⟨List.length_pos_iff.2 (hkd.ne (kl ks[j]) (List.mem_map_of_mem (List.getElem_mem hj))), fun h => hkd.len (x := kl ks[j]) (e := ks[j].2.2[0]'h) (List.mem_map_of_mem (List.getElem_mem hj)) (by show _ ∈ ks[j].2.2; exact List.getElem_mem h)⟩))
  have HLN := Lib.hid (Nat.le_trans hcl.1 he.short)
  have hle1 : ((l.length : Int) == 1) = false := by rw [beq_eq_false_iff_ne]; omega
  have HK2 := Lib.hid hk2
  clear hnd HNE he k1 k16 hpl hc hx hs hkd ih y3 hlev hl2 hlvn hcl hlk k1' hk2
  generalize (l[0]) = en at *
  generalize l.length = n0 at *
  generalize shL l = SL at *
  generalize sumsL l = SM at *
  have HBO := Lib.hid (Below.refl w.heap.size w)
  go_enter Tryz.func66, Tryz.ntmps66
  go_wp2_with fail
  refine (HEN.out _ (Below.refl _ _)).mono ?_
  rintro e ww1 ⟨rfl, hb9⟩
  have hs9 : Below w.heap.size w ww1 := below_trans (by repeat (first | exact Below.refl _ _ | (refine Below.drew ?_) | (refine below_drewN' ?_ _) | (refine below_alloc' ?_ _) | (refine Below.setCell ?_ (by first | exact Nat.le_refl _ | (simp; done) | (simp; omega)) _))) hb9
  replace HBO := Lib.hid (HBO.out.trans ((hs9).mono HBO.out.size))
  clear hs9 hb9
  go_wp2_with fail
  refine (HK.out _ (by repeat (first | exact HBO.out | (refine Below.drew ?_) | (refine below_drewN' ?_ _) | (refine below_alloc' ?_ _) | (refine Below.setCell ?_ (by first | exact Nat.le_refl _ | (have := HBO.out.size; simp; omega) | (have := HBO.out.size; omega)) _)))).mono ?_
  rintro e w9 ⟨rfl, hw9⟩
  obtain rfl := hw9.symm
  clear hw9
  go_wp2_with fail
  refine (HSH.out _ (by repeat (first | exact HBO.out | (refine Below.drew ?_) | (refine below_drewN' ?_ _) | (refine below_alloc' ?_ _) | (refine Below.setCell ?_ (by first | exact Nat.le_refl _ | (have := HBO.out.size; simp; omega) | (have := HBO.out.size; omega)) _)))).mono ?_
  rintro e ww2 ⟨x1, rfl, hx1, hb9⟩
  have hs9 : Below ww1.heap.size ww1 ww2 := below_trans (by repeat (first | exact Below.refl _ _ | (refine Below.drew ?_) | (refine below_drewN' ?_ _) | (refine below_alloc' ?_ _) | (refine Below.setCell ?_ (by first | exact Nat.le_refl _ | (simp; done) | (simp; omega)) _))) hb9
  replace HBO := Lib.hid (HBO.out.trans ((hs9).mono HBO.out.size))
  have HE := Lib.hid (show ww2.heap[ww1.heap.size]? = some (.cells #[.slice none 0 0, .int .u64 0] 51 (0, 0)) from (hb9.block _ (by simp)).trans (alloc_blk _ _))
  have HX1 := Lib.hid hx1.rd
  obtain ⟨u2, p2, rfl, _, _⟩ := hx1.ex
  clear hx1
  clear hs9 hb9
  go_wp2_with fail
  refine (HRS.out _ (by repeat (first | exact HBO.out | (refine Below.drew ?_) | (refine below_drewN' ?_ _) | (refine below_alloc' ?_ _) | (refine Below.setCell ?_ (by first | exact Nat.le_refl _ | (have := HBO.out.size; simp; omega) | (have := HBO.out.size; omega)) _)))).mono ?_
  rintro e ww3 ⟨x2, rfl, hx2, hb9⟩
  have hs9 : Below ww2.heap.size ww2 ww3 := below_trans (by repeat (first | exact Below.refl _ _ | (refine Below.drew ?_) | (refine below_drewN' ?_ _) | (refine below_alloc' ?_ _) | (refine Below.setCell ?_ (by first | exact Nat.le_refl _ | (simp; done) | (simp; omega)) _))) hb9
  replace HBO := Lib.hid (HBO.out.trans ((hs9).mono HBO.out.size))
  replace HE := Lib.hid (((hs9).block _ (kr_lt HE.out)).trans HE.out)
  replace HX1 := Lib.hid (HX1.out.below (hs9))
  have HX2 := Lib.hid (hx2.rd hb9)
  obtain ⟨u3, p3, rfl, _⟩ := hx2.pt
  clear hx2
  clear hs9 hb9
  go_wp2_with fail
  refine (HSS.out _ _ _ (HX1.out.below (by repeat (first | exact Below.refl _ _ | (refine Below.drew ?_) | (refine below_drewN' ?_ _) | (refine below_alloc' ?_ _) | (refine Below.setCell ?_ (by first | exact Nat.le_refl _ | (simp; done) | (simp; omega)) _)))) (HX2.out.below (by repeat (first | exact Below.refl _ _ | (refine Below.drew ?_) | (refine below_drewN' ?_ _) | (refine below_alloc' ?_ _) | (refine Below.setCell ?_ (by first | exact Nat.le_refl _ | (simp; done) | (simp; omega)) _))))).mono ?_
  rintro e ww4 ⟨rfl, hb9⟩
  have hs9 : Below ww3.heap.size ww3 ww4 := below_trans (by repeat (first | exact Below.refl _ _ | (refine Below.drew ?_) | (refine below_drewN' ?_ _) | (refine below_alloc' ?_ _) | (refine Below.setCell ?_ (by first | exact Nat.le_refl _ | (simp; done) | (simp; omega)) _))) hb9
  replace HBO := Lib.hid (HBO.out.trans ((hs9).mono HBO.out.size))
  replace HE := Lib.hid (((hs9).block _ (kr_lt HE.out)).trans HE.out)
  replace HX1 := Lib.hid (HX1.out.below (hs9))
  clear hs9 hb9
  go_wp2_with fail
  clear HX1 HX2
  refine (HNS.out _ (by repeat (first | exact HBO.out | (refine Below.drew ?_) | (refine below_drewN' ?_ _) | (refine below_alloc' ?_ _) | (refine Below.setCell ?_ (by first | exact Nat.le_refl _ | (have := HBO.out.size; simp; omega) | (have := HBO.out.size; omega)) _)))).mono ?_
  rintro e ww5 ⟨rfl, hb9⟩
  have hs9 : Below ww4.heap.size ww4 ww5 := below_trans (by repeat (first | exact Below.refl _ _ | (refine Below.drew ?_) | (refine below_drewN' ?_ _) | (refine below_alloc' ?_ _) | (refine Below.setCell ?_ (by first | exact Nat.le_refl _ | (simp; done) | (simp; omega)) _))) hb9
  replace HBO := Lib.hid (HBO.out.trans ((hs9).mono HBO.out.size))
  replace HE := Lib.hid (((hs9).block _ (kr_lt HE.out)).trans HE.out)
  clear hs9 hb9
  go_wp2_with fail
  refine (HRU.out _ (by repeat (first | exact HBO.out | (refine Below.drew ?_) | (refine below_drewN' ?_ _) | (refine below_alloc' ?_ _) | (refine Below.setCell ?_ (by first | exact Nat.le_refl _ | (have := HBO.out.size; simp; omega) | (have := HBO.out.size; omega)) _)))).mono ?_
  rintro e ww6 ⟨rfl, hb9⟩
  have hs9 : Below ww5.heap.size ww5 ww6 := below_trans (by repeat (first | exact Below.refl _ _ | (refine Below.drew ?_) | (refine below_drewN' ?_ _) | (refine below_alloc' ?_ _) | (refine Below.setCell ?_ (by first | exact Nat.le_refl _ | (simp; done) | (simp; omega)) _))) hb9
  replace HBO := Lib.hid (HBO.out.trans ((hs9).mono HBO.out.size))
  replace HE := Lib.hid (((hs9).block _ (kr_lt HE.out)).trans HE.out)
  clear hs9 hb9
  go_wp2_with fail
  refine (HLV.out _ (by repeat (first | exact HBO.out | (refine Below.drew ?_) | (refine below_drewN' ?_ _) | (refine below_alloc' ?_ _) | (refine Below.setCell ?_ (by first | exact Nat.le_refl _ | (have := HBO.out.size; simp; omega) | (have := HBO.out.size; omega)) _)))).mono ?_
  rintro e w9 ⟨rfl, hw9⟩
  obtain rfl := hw9.symm
  clear hw9
  go_wp2_with fail
  refine (HRS.out _ (by repeat (first | exact HBO.out | (refine Below.drew ?_) | (refine below_drewN' ?_ _) | (refine below_alloc' ?_ _) | (refine Below.setCell ?_ (by first | exact Nat.le_refl _ | (have := HBO.out.size; simp; omega) | (have := HBO.out.size; omega)) _)))).mono ?_
  rintro e ww7 ⟨x2, rfl, hx2, hb9⟩
  have hs9 : Below ww6.heap.size ww6 ww7 := below_trans (by repeat (first | exact Below.refl _ _ | (refine Below.drew ?_) | (refine below_drewN' ?_ _) | (refine below_alloc' ?_ _) | (refine Below.setCell ?_ (by first | exact Nat.le_refl _ | (simp; done) | (simp; omega)) _))) hb9
  replace HBO := Lib.hid (HBO.out.trans ((hs9).mono HBO.out.size))
  replace HE := Lib.hid (((hs9).block _ (kr_lt HE.out)).trans HE.out)
  obtain ⟨u4, p4, rfl, _⟩ := hx2.pt
  clear hx2
  clear hs9 hb9
  go_wp2_with fail
  refine (HPF.out _ (by repeat (first | exact HBO.out | (refine Below.drew ?_) | (refine below_drewN' ?_ _) | (refine below_alloc' ?_ _) | (refine Below.setCell ?_ (by first | exact Nat.le_refl _ | (have := HBO.out.size; simp; omega) | (have := HBO.out.size; omega)) _)))).mono ?_
  rintro e ww8 ⟨u5, rfl, hp5, hb9⟩
  have hs9 : Below ww7.heap.size ww7 ww8 := below_trans (by repeat (first | exact Below.refl _ _ | (refine Below.drew ?_) | (refine below_drewN' ?_ _) | (refine below_alloc' ?_ _) | (refine Below.setCell ?_ (by first | exact Nat.le_refl _ | (simp; done) | (simp; omega)) _))) hb9
  replace HBO := Lib.hid (HBO.out.trans ((hs9).mono HBO.out.size))
  replace HE := Lib.hid (((hs9).block _ (kr_lt HE.out)).trans HE.out)
  obtain ⟨A5, c5, rfl, _⟩ := RdU.point hp5.rd
  have HP5 := Lib.hid hp5.rd
  clear hp5
  clear hs9 hb9
  go_wp2_with fail
  refine (HRS.out _ (by repeat (first | exact HBO.out | (refine Below.drew ?_) | (refine below_drewN' ?_ _) | (refine below_alloc' ?_ _) | (refine Below.setCell ?_ (by first | exact Nat.le_refl _ | (have := HBO.out.size; simp; omega) | (have := HBO.out.size; omega)) _)))).mono ?_
  rintro e ww9 ⟨x2, rfl, hx2, hb9⟩
  have hs9 : Below ww8.heap.size ww8 ww9 := below_trans (by repeat (first | exact Below.refl _ _ | (refine Below.drew ?_) | (refine below_drewN' ?_ _) | (refine below_alloc' ?_ _) | (refine Below.setCell ?_ (by first | exact Nat.le_refl _ | (simp; done) | (simp; omega)) _))) hb9
  replace HBO := Lib.hid (HBO.out.trans ((hs9).mono HBO.out.size))
  replace HE := Lib.hid (((hs9).block _ (kr_lt HE.out)).trans HE.out)
  replace HP5 := Lib.hid (HP5.out.below (hs9))
  have HX2 := Lib.hid (hx2.rd hb9)
  obtain ⟨u6, p6, rfl, hpt6⟩ := hx2.pt
  have HP6 := Lib.hid (hpt6.1.elim (·.below hb9) (·.rd))
  clear hx2 hpt6 HX2
  obtain ⟨A6, c6, rfl, _⟩ := RdU.point HP6.out
  clear hs9 hb9
  go_wp2_with fail
  refine (HSA.out _ _ _ (HP5.out.below (by repeat (first | exact Below.refl _ _ | (refine Below.drew ?_) | (refine below_drewN' ?_ _) | (refine below_alloc' ?_ _) | (refine Below.setCell ?_ (by first | exact Nat.le_refl _ | (simp; done) | (simp; omega)) _)))) (HP6.out.below (by repeat (first | exact Below.refl _ _ | (refine Below.drew ?_) | (refine below_drewN' ?_ _) | (refine below_alloc' ?_ _) | (refine Below.setCell ?_ (by first | exact Nat.le_refl _ | (simp; done) | (simp; omega)) _))))).mono ?_
  rintro e ww10 ⟨rfl, hb9⟩
  have hs9 : Below ww9.heap.size ww9 ww10 := below_trans (by repeat (first | exact Below.refl _ _ | (refine Below.drew ?_) | (refine below_drewN' ?_ _) | (refine below_alloc' ?_ _) | (refine Below.setCell ?_ (by first | exact Nat.le_refl _ | (simp; done) | (simp; omega)) _))) hb9
  replace HBO := Lib.hid (HBO.out.trans ((hs9).mono HBO.out.size))
  replace HE := Lib.hid (((hs9).block _ (kr_lt HE.out)).trans HE.out)
  replace HP5 := Lib.hid (HP5.out.below (hs9))
  replace HP6 := Lib.hid (HP6.out.below (hs9))
  clear HP5 HP6
  clear hs9 hb9
  clear HE
  go_wp2_with fail
  refine (HKS.out _ (by repeat (first | exact HBO.out | (refine Below.drew ?_) | (refine below_drewN' ?_ _) | (refine below_alloc' ?_ _) | (refine Below.setCell ?_ (by first | exact Nat.le_refl _ | (have := HBO.out.size; simp; omega) | (have := HBO.out.size; omega)) _)))).mono ?_
  rintro e wk ⟨kv, rfl, ⟨kvs, hkv, hvl, hvs⟩, hb5⟩
  rw [List.length_map] at hvl
  have HBK := Lib.hid (below_trans (by repeat (first | exact HBO.out | (refine Below.drew ?_) | (refine below_drewN' ?_ _) | (refine below_alloc' ?_ _) | (refine Below.setCell ?_ (by first | exact Nat.le_refl _ | (have := HBO.out.size; simp; omega) | (have := HBO.out.size; omega)) _))) hb5)
  have hks0 : kvs ≠ [] := by intro h; rw [h] at hvl; have := HK2.out; rw [← hvl] at this; simp at this
  obtain ⟨gk, ck, rfl, hgk, hcv⟩ := hkv.cells hks0
  have HVS := Lib.hid (And.intro hvl (And.intro hvs hcv))
  clear hkv hgk hcv hb5 hvs hks0
  rw [hvl]
  obtain ⟨nk, hnk⟩ : ∃ nk, ks.length = nk := ⟨_, rfl⟩
  rw [hnk]
  have HNK := Lib.hid hnk
  clear hvl hnk
  go_wp2_with fail
  go_loopw [9] (fun iv wr => ∃ j : Nat, j ≤ nk ∧ iv = .int .i64 (j : Nat) ∧ Below wk.heap.size wk wr) (fun iv _ => nk - (intOf iv).toNat)
  case atStart => exact ⟨0, Nat.zero_le _, rfl, Below.refl _ _⟩
  case round =>
    obtain ⟨j, hj, rfl, hb⟩ := hrel
    have HBR := Lib.hid (HBK.out.trans (hb.mono HBK.out.size))
    by_cases hlt : j < nk
    · have h5 : (0 : Int) ≤ (j : Int) := by omega
      have h6 : (j : Int) < (nk : Int) := by omega
      have hjk : j < ks.length := by rw [HNK.out]; exact hlt
      have HW := Lib.hid (show wrap64 ((j : Int) + 1) = ((j + 1 : Nat) : Int) by have := HLN.out; unfold wrap64; omega)
      have hjv : j < kvs.length := by rw [HVS.out.1]; exact hjk
      have kj := Below.keeps hb _ _ (HVS.out.2.2 j hjv)
      have hrd := (HVS.out.2.1 j hjv (by rw [List.length_map]; exact hjk)).below HBR.out
      rw [List.getElem_map] at hrd
      have HIS := Lib.hid (fun w' (hb : Below wr.heap.size wr w') => HIH.out j hjk w' _ (HBR.out.trans (hb.mono HBR.out.size)) (hrd.below hb))
      have HKD := Lib.hid (HKID.out j hjk)
      obtain ⟨hj0, hkk⟩ := HKL.out j hjk
      have HADJ := Lib.hid (HADR.out j hjk hj0)
      obtain ⟨Aj, cj, ej, z9, hxj⟩ := hrd
      obtain ⟨bj, oj, rfl, hcj⟩ := hxj hj0
      obtain ⟨up, g0, hup, z8⟩ := hcj 0 hj0
      have HAD := Lib.hid (fun w' (hb : Below wr.heap.size wr w') => HADJ.out w' up (hup.below hb))
      obtain ⟨Ap, cp, rfl, z7⟩ := RdU.point hup
      rw [hkk hj0] at g0 HAD
      simp only [Nat.zero_mul, Nat.add_zero] at g0
      rw [ej] at kj HIS
      have h7 : (0 : Int) < (ks[j].2.2.length : Int) := by omega
      have h8 : 0 < ks[j].2.2.length := hj0
      clear ej hup hcj hxj HADJ hkk z9 z8 z7 hj0
      generalize ks[j].2.2.length = nj at *
      obtain ⟨y1, hy1⟩ : ∃ y1, ks[j].1 = y1 := ⟨_, rfl⟩
      obtain ⟨y2, hy2⟩ : ∃ y2, ks[j].2.1 = y2 := ⟨_, rfl⟩
      rw [hy1] at HAD HKD
      rw [hy2] at HKD HIS
      simp only [pv_some] at HKD
      have hgl := World.block_lt_of_cell? wr _ kj
      have hjl := World.block_lt_of_cell? wr _ g0
      have HBJ := Lib.hid hb
      clear hb hy1 hy2
      go_wp2_with fail
      refine wp_region_vals 17 [fun z9 _ => z9 = .pointer (some ⟨b, 0, none⟩),
        fun z9 _ => z9 = .slice (some ⟨gk, 0, none⟩) nk ck,
        fun z9 _ => z9 = .int .i64 (j : Nat),
        fun z9 _ => z9 = .pointer (some ⟨gk, j, none⟩),
        fun z9 _ => z9 = .slice (some ⟨bj, oj, none⟩) nj cj,
        fun z9 _ => z9 = .pointer (some ⟨bj, oj, none⟩),
        fun z9 _ => z9 = .pointer (some ⟨bj, oj, none⟩),
        fun z9 _ => z9 = .slice Ap k cp,
        fun z9 _ => z9 = .pointer (some ⟨b, 0, none⟩),
        fun z9 _ => z9 = .int .i64 SL.lv,
        fun z9 _ => z9 = .int .i64 (y1 : Nat),
        fun z9 _ => z9 = .pointer (some ⟨y2, 0, none⟩),
        fun z9 _ => z9 = .slice (some ⟨gk, 0, none⟩) nk ck,
        fun z9 _ => z9 = .int .i64 (j : Nat),
        fun z9 _ => z9 = .pointer (some ⟨gk, j, none⟩),
        fun z9 _ => z9 = .slice (some ⟨bj, oj, none⟩) nj cj,
        fun z9 _ => z9 = .bool true]
        (by kernel_rfl) (by kernel_rfl) (by kernel_rfl) (by kernel_rfl) ?_ ?_ ?_
      · intro V hV v w1 w2 h hb
        simp only [List.mem_cons, List.not_mem_nil, or_false] at hV
        rcases hV with rfl | rfl | rfl | rfl | rfl | rfl | rfl | rfl | rfl | rfl | rfl | rfl | rfl | rfl | rfl | rfl | rfl
        all_goals first | exact h | (exact h)
      · intro iq oq hiq hoq
        match iq, hiq with
        | 0, _ =>
        obtain rfl := Option.some.inj hoq
        intro a1 w1 K hk hK
        have e0 : a1.tmps.getD 0 undef = .pointer (some ⟨b, 0, none⟩) := hk.same 0 (by simp)
        simp [Region.wanted, Oper.wp, Act.eval, go_sem, e0, kj, g0, h5, h6, h7, h8, hgl, hjl]
        exact hK _ _ (Below.refl _ _) rfl
        | 1, _ =>
        obtain rfl := Option.some.inj hoq
        intro a1 w1 K hk hK
        have e8 : a1.tmps.getD 8 undef = .slice (some ⟨gk, 0, none⟩) nk ck := hk.same 8 (by simp)
        simp [Region.wanted, Oper.wp, Act.eval, go_sem, e8, kj, g0, h5, h6, h7, h8, hgl, hjl]
        exact hK _ _ (Below.refl _ _) rfl
        | 2, _ =>
        obtain rfl := Option.some.inj hoq
        intro a1 w1 K hk hK
        have e9 : a1.tmps.getD 9 undef = .int .i64 (j : Nat) := hk.same 9 (by simp)
        simp [Region.wanted, Oper.wp, Act.eval, go_sem, e9, kj, g0, h5, h6, h7, h8, hgl, hjl]
        exact hK _ _ (Below.refl _ _) rfl
        | 3, _ =>
        obtain rfl := Option.some.inj hoq
        intro a1 w1 K hk hK
        have d93 : a1.tmps.getD 93 undef = .slice (some ⟨gk, 0, none⟩) nk ck := hk.deps ⟨1, .data⟩ (by simp) rfl _ _ rfl rfl
        have d94 : a1.tmps.getD 94 undef = .int .i64 (j : Nat) := hk.deps ⟨2, .data⟩ (by simp) rfl _ _ rfl rfl
        simp [Region.wanted, Oper.wp, Act.eval, go_sem, d93, d94, kj, g0, h5, h6, h7, h8, hgl, hjl]
        exact hK _ _ (Below.refl _ _) rfl
        | 4, _ =>
        obtain rfl := Option.some.inj hoq
        intro a1 w1 K hk hK
        have d95 : a1.tmps.getD 95 undef = .pointer (some ⟨gk, j, none⟩) := hk.deps ⟨3, .data⟩ (by simp) rfl _ _ rfl rfl
        have c0 : w1.cell? ⟨gk, j, none⟩ = some (.slice (some ⟨bj, oj, none⟩) nj cj) := Below.keeps hk.ext _ _ (by simp [go_sem, kj, g0, h5, h6, h7, h8, hgl, hjl])
        have c1 : w1.cell? ⟨bj, oj, none⟩ = some (.slice Ap k cp) := Below.keeps hk.ext _ _ (by simp [go_sem, kj, g0, h5, h6, h7, h8, hgl, hjl])
        simp [Region.wanted, Oper.wp, Act.eval, go_sem, d95, c0, c1, kj, g0, h5, h6, h7, h8, hgl, hjl]
        exact hK _ _ (Below.refl _ _) rfl
        | 5, _ =>
        obtain rfl := Option.some.inj hoq
        intro a1 w1 K hk hK
        have d96 : a1.tmps.getD 96 undef = .slice (some ⟨bj, oj, none⟩) nj cj := hk.deps ⟨4, .data⟩ (by simp) rfl _ _ rfl rfl
        simp [Region.wanted, Oper.wp, Act.eval, go_sem, d96, kj, g0, h5, h6, h7, h8, hgl, hjl]
        exact hK _ _ (Below.refl _ _) rfl
        | 6, _ =>
        obtain rfl := Option.some.inj hoq
        intro a1 w1 K hk hK
        have d97 : a1.tmps.getD 97 undef = .pointer (some ⟨bj, oj, none⟩) := hk.deps ⟨5, .data⟩ (by simp) rfl _ _ rfl rfl
        simp [Region.wanted, Oper.wp, Act.eval, go_sem, d97, kj, g0, h5, h6, h7, h8, hgl, hjl]
        exact hK _ _ (Below.refl _ _) rfl
        | 7, _ =>
        obtain rfl := Option.some.inj hoq
        intro a1 w1 K hk hK
        have d98 : a1.tmps.getD 98 undef = .pointer (some ⟨bj, oj, none⟩) := hk.deps ⟨6, .data⟩ (by simp) rfl _ _ rfl rfl
        have c0 : w1.cell? ⟨gk, j, none⟩ = some (.slice (some ⟨bj, oj, none⟩) nj cj) := Below.keeps hk.ext _ _ (by simp [go_sem, kj, g0, h5, h6, h7, h8, hgl, hjl])
        have c1 : w1.cell? ⟨bj, oj, none⟩ = some (.slice Ap k cp) := Below.keeps hk.ext _ _ (by simp [go_sem, kj, g0, h5, h6, h7, h8, hgl, hjl])
        simp [Region.wanted, Oper.wp, Act.eval, go_sem, d98, c0, c1, kj, g0, h5, h6, h7, h8, hgl, hjl]
        exact hK _ _ (Below.refl _ _) rfl
        | 8, _ =>
        obtain rfl := Option.some.inj hoq
        intro a1 w1 K hk hK
        have e0 : a1.tmps.getD 0 undef = .pointer (some ⟨b, 0, none⟩) := hk.same 0 (by simp)
        simp [Region.wanted, Oper.wp, Act.eval, go_sem, e0, kj, g0, h5, h6, h7, h8, hgl, hjl]
        exact hK _ _ (Below.refl _ _) rfl
        | 9, _ =>
        obtain rfl := Option.some.inj hoq
        intro a1 w1 K hk hK
        have d100 : a1.tmps.getD 100 undef = .pointer (some ⟨b, 0, none⟩) := hk.deps ⟨8, .data⟩ (by simp) rfl _ _ rfl rfl
        simp [Region.wanted, Oper.wp, Act.eval, go_sem, d100, kj, g0, h5, h6, h7, h8, hgl, hjl]
        refine (HLV.out _ (below_trans (by repeat (first | exact HBR.out | (refine Below.drew ?_) | (refine below_drewN' ?_ _) | (refine below_alloc' ?_ _) | (refine Below.setCell ?_ (by first | exact Nat.le_refl _ | (have := HBR.out.size; simp; omega) | (have := HBR.out.size; omega)) _))) hk.ext)).mono ?_
        rintro e w9 ⟨rfl, hw9⟩
        obtain rfl := hw9.symm
        exact hK _ _ (Below.refl _ _) rfl
        | 10, _ =>
        obtain rfl := Option.some.inj hoq
        intro a1 w1 K hk hK
        have d99 : a1.tmps.getD 99 undef = .slice Ap k cp := hk.deps ⟨7, .data⟩ (by simp) rfl _ _ rfl rfl
        have d101 : a1.tmps.getD 101 undef = .int .i64 SL.lv := hk.deps ⟨9, .data⟩ (by simp) rfl _ _ rfl rfl
        simp [Region.wanted, Oper.wp, Act.eval, go_sem, d99, d101, kj, g0, h5, h6, h7, h8, hgl, hjl]
        refine (HAD.out _ (below_trans (by repeat (first | exact Below.refl _ _ | (refine Below.drew ?_) | (refine below_drewN' ?_ _) | (refine below_alloc' ?_ _) | (refine Below.setCell ?_ (by first | exact Nat.le_refl _ | (simp; done) | (simp; omega)) _))) hk.ext)).mono ?_
        rintro e w9 ⟨rfl, hb9⟩
        exact hK _ _ hb9 rfl
        | 11, _ =>
        obtain rfl := Option.some.inj hoq
        intro a1 w1 K hk hK
        have d92 : a1.tmps.getD 92 undef = .pointer (some ⟨b, 0, none⟩) := hk.deps ⟨0, .data⟩ (by simp) rfl _ _ rfl rfl
        have d102 : a1.tmps.getD 102 undef = .int .i64 (y1 : Nat) := hk.deps ⟨10, .data⟩ (by simp) rfl _ _ rfl rfl
        simp [Region.wanted, Oper.wp, Act.eval, go_sem, d92, d102, kj, g0, h5, h6, h7, h8, hgl, hjl]
        refine (HKD.out _ (below_trans (by repeat (first | exact HBR.out | (refine Below.drew ?_) | (refine below_drewN' ?_ _) | (refine below_alloc' ?_ _) | (refine Below.setCell ?_ (by first | exact Nat.le_refl _ | (have := HBR.out.size; simp; omega) | (have := HBR.out.size; omega)) _))) hk.ext)).mono ?_
        rintro e w9 ⟨rfl, hb9⟩
        exact hK _ _ hb9 rfl
        | 12, _ =>
        obtain rfl := Option.some.inj hoq
        intro a1 w1 K hk hK
        have e8 : a1.tmps.getD 8 undef = .slice (some ⟨gk, 0, none⟩) nk ck := hk.same 8 (by simp)
        simp [Region.wanted, Oper.wp, Act.eval, go_sem, e8, kj, g0, h5, h6, h7, h8, hgl, hjl]
        exact hK _ _ (Below.refl _ _) rfl
        | 13, _ =>
        obtain rfl := Option.some.inj hoq
        intro a1 w1 K hk hK
        have e9 : a1.tmps.getD 9 undef = .int .i64 (j : Nat) := hk.same 9 (by simp)
        simp [Region.wanted, Oper.wp, Act.eval, go_sem, e9, kj, g0, h5, h6, h7, h8, hgl, hjl]
        exact hK _ _ (Below.refl _ _) rfl
        | 14, _ =>
        obtain rfl := Option.some.inj hoq
        intro a1 w1 K hk hK
        have d104 : a1.tmps.getD 104 undef = .slice (some ⟨gk, 0, none⟩) nk ck := hk.deps ⟨12, .data⟩ (by simp) rfl _ _ rfl rfl
        have d105 : a1.tmps.getD 105 undef = .int .i64 (j : Nat) := hk.deps ⟨13, .data⟩ (by simp) rfl _ _ rfl rfl
        simp [Region.wanted, Oper.wp, Act.eval, go_sem, d104, d105, kj, g0, h5, h6, h7, h8, hgl, hjl]
        exact hK _ _ (Below.refl _ _) rfl
        | 15, _ =>
        obtain rfl := Option.some.inj hoq
        intro a1 w1 K hk hK
        have d106 : a1.tmps.getD 106 undef = .pointer (some ⟨gk, j, none⟩) := hk.deps ⟨14, .data⟩ (by simp) rfl _ _ rfl rfl
        have c0 : w1.cell? ⟨gk, j, none⟩ = some (.slice (some ⟨bj, oj, none⟩) nj cj) := Below.keeps hk.ext _ _ (by simp [go_sem, kj, g0, h5, h6, h7, h8, hgl, hjl])
        have c1 : w1.cell? ⟨bj, oj, none⟩ = some (.slice Ap k cp) := Below.keeps hk.ext _ _ (by simp [go_sem, kj, g0, h5, h6, h7, h8, hgl, hjl])
        simp [Region.wanted, Oper.wp, Act.eval, go_sem, d106, c0, c1, kj, g0, h5, h6, h7, h8, hgl, hjl]
        exact hK _ _ (Below.refl _ _) rfl
        | 16, _ =>
        obtain rfl := Option.some.inj hoq
        intro a1 w1 K hk hK
        have d103 : a1.tmps.getD 103 undef = .pointer (some ⟨y2, 0, none⟩) := hk.deps ⟨11, .data⟩ (by simp) rfl _ _ rfl rfl
        have d107 : a1.tmps.getD 107 undef = .slice (some ⟨bj, oj, none⟩) nj cj := hk.deps ⟨15, .data⟩ (by simp) rfl _ _ rfl rfl
        simp [Region.wanted, Oper.wp, Act.eval, go_sem, d103, d107, kj, g0, h5, h6, h7, h8, hgl, hjl]
        refine (HIS.out _ (below_trans (by repeat (first | exact Below.refl _ _ | (refine Below.drew ?_) | (refine below_drewN' ?_ _) | (refine below_alloc' ?_ _) | (refine Below.setCell ?_ (by first | exact Nat.le_refl _ | (simp; done) | (simp; omega)) _))) hk.ext)).mono ?_
        rintro e w9 ⟨rfl, hb9⟩
        exact hK _ _ hb9 rfl
        | k + 17, hk => exact absurd hk (by omega)
      · intro vs w3 hl hb3 hv
        match vs, hl with
        | [v0, v1, v2, v3, v4, v5, v6, v7, v8, v9, v10, v11, v12, v13, v14, v15, v16], _ =>
        obtain rfl : v0 = .pointer (some ⟨b, 0, none⟩) := hv 0 (by omega)
        obtain rfl : v1 = .slice (some ⟨gk, 0, none⟩) nk ck := hv 1 (by omega)
        obtain rfl : v2 = .int .i64 (j : Nat) := hv 2 (by omega)
        obtain rfl : v3 = .pointer (some ⟨gk, j, none⟩) := hv 3 (by omega)
        obtain rfl : v4 = .slice (some ⟨bj, oj, none⟩) nj cj := hv 4 (by omega)
        obtain rfl : v5 = .pointer (some ⟨bj, oj, none⟩) := hv 5 (by omega)
        obtain rfl : v6 = .pointer (some ⟨bj, oj, none⟩) := hv 6 (by omega)
        obtain rfl : v7 = .slice Ap k cp := hv 7 (by omega)
        obtain rfl : v8 = .pointer (some ⟨b, 0, none⟩) := hv 8 (by omega)
        obtain rfl : v9 = .int .i64 SL.lv := hv 9 (by omega)
        obtain rfl : v10 = .int .i64 (y1 : Nat) := hv 10 (by omega)
        obtain rfl : v11 = .pointer (some ⟨y2, 0, none⟩) := hv 11 (by omega)
        obtain rfl : v12 = .slice (some ⟨gk, 0, none⟩) nk ck := hv 12 (by omega)
        obtain rfl : v13 = .int .i64 (j : Nat) := hv 13 (by omega)
        obtain rfl : v14 = .pointer (some ⟨gk, j, none⟩) := hv 14 (by omega)
        obtain rfl : v15 = .slice (some ⟨bj, oj, none⟩) nj cj := hv 15 (by omega)
        obtain rfl : v16 = .bool true := hv 16 (by omega)
        clear hv
        simp only [putAll, List.take_succ_cons, List.take_zero, List.drop_succ_cons, List.drop_zero, Act.put, List.setIfInBounds_toArray, List.set_cons_succ, List.set_cons_zero]
        have HF := Lib.hid (show Below wr.heap.size wr w3 from below_trans (by repeat (first | exact Below.refl _ _ | (refine Below.drew ?_) | (refine below_drewN' ?_ _) | (refine below_alloc' ?_ _) | (refine Below.setCell ?_ (by first | exact Nat.le_refl _ | (simp; done) | (simp; omega)) _))) hb3)
        clear kj g0 hb3
        go_wp2_with fail
        go_roundw
        case rel => exact ⟨j + 1, by omega, (by first | rw [HW.out] | rfl | simp), HBJ.out.trans (HF.out.mono HBJ.out.size)⟩
        case measure => (first | (rw [intOf_of' HW.out, intOf_of' rfl]; omega) | (simp [intOf]; omega) | (simp [intOf] <;> omega))
    · have h6 : ¬ (j : Int) < (nk : Int) := by omega
      clear hb
      go_wp2_with fail
      go_ret
      exact ⟨rfl, (by repeat (first | exact HBR.out | (refine Below.drew ?_) | (refine below_drewN' ?_ _) | (refine below_alloc' ?_ _) | (refine Below.setCell ?_ (by first | exact Nat.le_refl _ | (have := HBR.out.size; simp; omega) | (have := HBR.out.size; omega)) _)))⟩
end Go.Proofs.YtjokcagggmjgmaaGreat
/-! IsT -/
namespace Go.Proofs.YtjokcagggmjgmaaGreat
open Go.RowKit
set_option linter.unusedVariables false
set_option linter.unusedSimpArgs false
set_option maxRecDepth 100000

theorem is06_any {w : World} {k b : Nat} {l : List En} (hnd : Nd w k b l) (k1 : 1 ≤ k) (k16 : k ≤ 16) : ∀ (w1 : World) (v : Value), Below w.heap.size w w1 → RdE w1 v l → EtS k l →
    Calls Tryz.prog 66 #[.pointer (some ⟨b, 0, none⟩), v] w1 fun e w' => e = .returned (.bool true) ∧ Below w1.heap.size w1 w' := by
  induction hnd with
  | leaf b p x h hp ho hv => intro w1 v hb hr he; exact is06_one w1 k b _ v ((Nd.leaf b p x h hp ho hv).bel hb) rfl hr he k1 k16
  | node b s n pre ks h hs hkd hn ih =>
    intro w1 v hb hr he
    exact is06_node w1 k b s n pre ks _ v rfl ((Nd.node b s n pre ks h hs hkd hn).bel hb) (Below.keeps hb _ _ h.c3) (hs.below hb) hkd (fun x hx w2 v2 hb2 h1 h2 => ih x hx w2 v2 (hb.trans (hb2.mono hb.size)) h1 h2) hr he k1 k16
theorem RdS.mono {Pt Qt : PtS'} {w : World} {v : Value} {l : List Sh} (h : RdS Pt w v l) (hk : ∀ u p s, Pt u p s → Qt u p s) : RdS Qt w v l := by
  obtain ⟨A, c, e, h⟩ := h
  exact ⟨A, c, e, fun hp => let ⟨b, h1, h2⟩ := h hp; ⟨b, h1, fun j hj => let ⟨u, pl, a0, a1, a2, a3, a4, a5⟩ := h2 j hj; ⟨u, pl, a0, a1, a2, a3, a4, hk _ _ _ a5⟩⟩⟩
theorem RdS.below {Pt : PtS'} {w w' : World} {v : Value} {l : List Sh} (h : RdS Pt w v l) (hb : Below w.heap.size w w') : RdS Pt w' v l := by
  obtain ⟨A, c, e, h⟩ := h
  have hk := Below.keeps hb
  exact ⟨A, c, e, fun hp => let ⟨b, h1, h2⟩ := h hp; ⟨b, h1, fun j hj => let ⟨u, pl, a0, a1, a2, a3, a4, a5⟩ := h2 j hj; ⟨u, pl, hk _ _ a0, hk _ _ a1, hk _ _ a2, hk _ _ a3, hk _ _ a4, a5⟩⟩⟩
theorem Tn.sh_small {k : Nat} {l : List En} (h : Tn k l) (hk : k ≤ 40) (hl : l.length ≤ 1000) : ∀ s ∈ shapesL l, s.pre.length ≤ 100 ∧ s.pl.length ≤ 100000 := by
  induction h with
  | one e h =>
    intro s hs
    rw [shapes_one] at hs
    obtain rfl : s = shL [e] := by simpa using hs
    exact ⟨by show e.p.length ≤ 100; omega, by simp [shL]⟩
  | node n pre ks hkd hn ih =>
    intro s hs
    rw [Tn.shapes hkd hn] at hs
    rcases List.mem_cons.1 hs with rfl | hs
    · rw [hkd.sh]
      exact ⟨by have := hkd.preLen.1; show pre.length ≤ 100; omega, by simp only [List.length_map]; have := (cat_length ks hkd.ne).1; omega⟩
    · obtain ⟨x, hx, hs⟩ := List.mem_flatMap.1 hs
      exact ih x hx (by have := hkd.kid_lt hx; omega) s hs
theorem sums_n (l : List En) (h : l.length < 2 ^ 64) : (sumsL l).n = l.length := by
  induction l with
  | nil => rfl
  | cons e l ih =>
    cases l with
    | nil => rfl
    | cons f l =>
      rw [sumsL_cons e (f :: l) (by simp)]
      have h1 := ih (by simp at h ⊢; omega)
      show (1 + (sumsL (f :: l)).n) % 2 ^ 64 = _
      rw [h1]
      simp only [List.length_cons] at h ⊢
      omega
theorem tlen_any (w : World) (t k : Nat) (l : List En) (ht : TrR w t k l) (hs : l.length ≤ 1000) : Calls Tryz.prog 63 #[.pointer (some ⟨t, 0, none⟩)] w fun e w' => e = .returned (.int .i64 (l.length : Nat)) ∧ Below w.heap.size w w' := by
  obtain ⟨r, c1, hr⟩ := ht.c1
  obtain ⟨q, hq⟩ := pv_ex r
  have HSU : Hid (Calls Tryz.prog 107 #[pv r] w fun e w' => e = .returned (smV (sumsL l)) ∧ Below w.heap.size w w') := by
    cases r with
    | none => obtain rfl : l = [] := hr; exact Lib.hid (nsums_nil w)
    | some b => obtain ⟨v, kp, hh⟩ := Nd.hd hr; exact Lib.hid (nsums_any w b _ _ _ _ _ hh)
  have hn := sums_n l (by omega)
  have hw : wrap64 (l.length : Int) = (l.length : Int) := by unfold wrap64; omega
  generalize sumsL l = S at *
  have hfd : ∀ w : World, (Instr.field 159 (.agg #[.int .u64 (S.n : Nat), .int .u64 (S.s : Nat), .int .u64 (S.mn : Nat), .int .u64 (S.mx : Nat)]) 0).run Tryz.prog w = .ok (.int .u64 (S.n : Nat)) w := fun _ => by kernel_rfl
  rw [hq] at c1 HSU
  have HN := Lib.hid hn
  clear ht hr hq hs hn
  go_enter Tryz.func63, Tryz.ntmps63
  go_wp2_with fail
  refine (troot_any w t q c1).mono ?_
  rintro e w1 ⟨rfl, hw1⟩
  obtain rfl := hw1.symm
  clear hw1
  go_wp2_with fail
  refine HSU.out.mono ?_
  rintro e w2 ⟨rfl, hb⟩
  have HB := Lib.hid hb
  clear hb
  unfold smV
  go_wp2_with fail
  go_ret
  exact ⟨by simp [HN.out, hw], HB.out⟩
set_option maxHeartbeats 4000000 in
theorem is07_any (w : World) (t k : Nat) (l : List En) (v : Value) (ht : TrR w t k l) (hv : RdE w v l) (he : EtS k l) :
    Calls Tryz.prog 23 #[.pointer (some ⟨t, 0, none⟩), .int .i64 (k : Nat), v] w fun e w' => e = .returned (.bool true) ∧ Below w.heap.size w w' := by
  obtain ⟨r, c1, hr⟩ := ht.c1
  obtain ⟨q, hq⟩ := pv_ex r
  have HK := Lib.hid (fun w' (hb : Below w.heap.size w w') => tk_any w' t k (Below.keeps hb _ _ ht.c0))
  have HLN := Lib.hid (fun w' (hb : Below w.heap.size w w') => tlen_any w' t k l (ht.bel hb) he.short)
  have HSH := Lib.hid (fun w' (hb : Below w.heap.size w w') => tshapes_any w' t k l (ht.bel hb) he.short)
  have HRT := Lib.hid (fun w' (hb : Below w.heap.size w w') => troot_any w' t q (Below.keeps hb _ _ (hq ▸ c1)))
  have HRS : Hid (∀ w', Below w.heap.size w w' → Calls Tryz.prog 64 #[v] w' fun e' w'' => ShsP w' w' (shapesL l) e' w'') := by
    cases r with
    | none => obtain rfl : l = [] := hr; exact Lib.hid fun w' hb => rShapes_nil w' w' v (hv.below hb)
    | some b => exact Lib.hid fun w' hb => rShapes_tn (Nd.tn hr) w' w' v (hv.below hb) (Below.refl _ _) he
  have hsm : (shapesL l).length ≤ 100000 ∧ ∀ s ∈ shapesL l, s.pre.length ≤ 100 ∧ s.pl.length ≤ 100000 := by
    cases r with
    | none => obtain rfl : l = [] := hr; exact ⟨by decide, fun s hs => by simp [shapesL, shapesF] at hs⟩
    | some b => exact ⟨by have := (Nd.tn hr).len; have := he.short; omega, (Nd.tn hr).sh_small he.k40 he.short⟩
  have HSS := Lib.hid (fun w' x y (hx : RdS (PtR w') w' x (shapesL l)) (hy : RdS (PtR w') w' y (shapesL l)) => rSameShapes w' x y (shapesL l) hx hy hsm.1 hsm.2)
  have HIS : Hid (l ≠ [] → ∀ w', Below w.heap.size w w' → Calls Tryz.prog 66 #[.pointer q, v] w' fun e w'' => e = .returned (.bool true) ∧ Below w'.heap.size w' w'') := by
    refine Lib.hid fun hne w' hb => ?_
    cases r with
    | none => exact absurd hr hne
    | some b =>
      rw [← hq]
      exact is06_any (hnd := hr) ht.k1 ht.k16 w' v hb (hv.below hb) he
  have hnil : l = [] → q = none := fun h => by
    cases r with
    | none => injection hq with hq; exact hq.symm
    | some b => exact absurd h (Nd.ne hr)
  have ne0 : ((k : Int) != (k : Int)) = false := by simp
  have ne1 : ((l.length : Int) != (l.length : Int)) = false := by simp
  obtain ⟨A, c, rfl, hvz⟩ := hv
  clear ht hr hq he c1 hsm hvz

  have HBO := Lib.hid (Below.refl w.heap.size w)
  go_enter Tryz.func23, Tryz.ntmps23
  go_wp2_with fail
  refine (HK.out _ (by repeat (first | exact HBO.out | (refine Below.drew ?_) | (refine below_drewN' ?_ _) | (refine below_alloc' ?_ _) | (refine Below.setCell ?_ (by first | exact Nat.le_refl _ | (have := HBO.out.size; simp; omega) | (have := HBO.out.size; omega)) _)))).mono ?_
  rintro e w9 ⟨rfl, hw9⟩
  obtain rfl := hw9.symm
  clear hw9
  go_wp2_with fail
  refine (HLN.out _ (by repeat (first | exact HBO.out | (refine Below.drew ?_) | (refine below_drewN' ?_ _) | (refine below_alloc' ?_ _) | (refine Below.setCell ?_ (by first | exact Nat.le_refl _ | (have := HBO.out.size; simp; omega) | (have := HBO.out.size; omega)) _)))).mono ?_
  rintro e ww1 ⟨rfl, hb9⟩
  have hs9 : Below w.heap.size w ww1 := below_trans (by repeat (first | exact Below.refl _ _ | (refine Below.drew ?_) | (refine below_drewN' ?_ _) | (refine below_alloc' ?_ _) | (refine Below.setCell ?_ (by first | exact Nat.le_refl _ | (simp; done) | (simp; omega)) _))) hb9
  replace HBO := Lib.hid (HBO.out.trans ((hs9).mono HBO.out.size))
  clear hs9 hb9
  go_wp2_with fail
  refine (HSH.out _ (by repeat (first | exact HBO.out | (refine Below.drew ?_) | (refine below_drewN' ?_ _) | (refine below_alloc' ?_ _) | (refine Below.setCell ?_ (by first | exact Nat.le_refl _ | (have := HBO.out.size; simp; omega) | (have := HBO.out.size; omega)) _)))).mono ?_
  rintro e wa ⟨x1, rfl, ho1, hb9⟩
  have hs9 : Below ww1.heap.size ww1 wa := below_trans (by repeat (first | exact Below.refl _ _ | (refine Below.drew ?_) | (refine below_drewN' ?_ _) | (refine below_alloc' ?_ _) | (refine Below.setCell ?_ (by first | exact Nat.le_refl _ | (simp; done) | (simp; omega)) _))) hb9
  have HX1 := Lib.hid ((ho1.mono (PtK.rd hb9)).rd)
  replace HBO := Lib.hid (HBO.out.trans (hs9.mono HBO.out.size))
  clear ho1 hb9 hs9
  go_wp2_with fail
  refine (HRS.out _ (by repeat (first | exact HBO.out | (refine Below.drew ?_) | (refine below_drewN' ?_ _) | (refine below_alloc' ?_ _) | (refine Below.setCell ?_ (by first | exact Nat.le_refl _ | (have := HBO.out.size; simp; omega) | (have := HBO.out.size; omega)) _)))).mono ?_
  rintro e wb ⟨x2, rfl, ho2, hb9⟩
  have hs9 : Below wa.heap.size wa wb := below_trans (by repeat (first | exact Below.refl _ _ | (refine Below.drew ?_) | (refine below_drewN' ?_ _) | (refine below_alloc' ?_ _) | (refine Below.setCell ?_ (by first | exact Nat.le_refl _ | (simp; done) | (simp; omega)) _))) hb9
  have HX2 := Lib.hid ((ho2.mono (PtK.rd hb9)).rd)
  replace HX1 := Lib.hid ((HX1.out.mono (PtR.below hs9)).below hs9)
  replace HBO := Lib.hid (HBO.out.trans (hs9.mono HBO.out.size))
  clear ho2 hb9 hs9
  go_wp2_with fail
  refine (HSS.out _ _ _ HX1.out HX2.out).mono ?_
  rintro e wc ⟨rfl, hb9⟩
  have hs9 : Below wb.heap.size wb wc := below_trans (by repeat (first | exact Below.refl _ _ | (refine Below.drew ?_) | (refine below_drewN' ?_ _) | (refine below_alloc' ?_ _) | (refine Below.setCell ?_ (by first | exact Nat.le_refl _ | (simp; done) | (simp; omega)) _))) hb9
  replace HBO := Lib.hid (HBO.out.trans (hs9.mono HBO.out.size))
  clear hb9 hs9
  by_cases h0 : l = []
  · subst h0
    obtain rfl := hnil rfl
    simp only [List.length_nil] at *
    go_wp2_with fail
    refine (HRT.out _ (by repeat (first | exact HBO.out | (refine Below.drew ?_) | (refine below_drewN' ?_ _) | (refine below_alloc' ?_ _) | (refine Below.setCell ?_ (by first | exact Nat.le_refl _ | (have := HBO.out.size; simp; omega) | (have := HBO.out.size; omega)) _)))).mono ?_
    rintro e w1 ⟨rfl, hw1⟩
    obtain rfl := hw1.symm
    clear hw1
    go_wp2_with fail
    go_ret
    exact ⟨rfl, (by repeat (first | exact HBO.out | (refine Below.drew ?_) | (refine below_drewN' ?_ _) | (refine below_alloc' ?_ _) | (refine Below.setCell ?_ (by first | exact Nat.le_refl _ | (have := HBO.out.size; simp; omega) | (have := HBO.out.size; omega)) _)))⟩
  · have h1 : ((l.length : Int) == 0) = false := by rw [beq_eq_false_iff_ne]; have := List.length_pos_iff.2 h0; omega
    replace HIS := Lib.hid (HIS.out h0)
    have hpos := List.length_pos_iff.2 h0
    clear HRS HLN HSH HSS HX1 HX2 h1 hnil h0
    generalize l.length = n at *
    obtain ⟨m, rfl⟩ : ∃ m, n = m + 1 := ⟨n - 1, by omega⟩
    have h3 : (((m : Int) + 1) == 0) = false := by rw [beq_eq_false_iff_ne]; omega
    have h4 : ¬ ((m : Int) + 1 = 0) := by omega
    clear hpos
    go_wp2_with fail
    refine (HRT.out _ (by repeat (first | exact HBO.out | (refine Below.drew ?_) | (refine below_drewN' ?_ _) | (refine below_alloc' ?_ _) | (refine Below.setCell ?_ (by first | exact Nat.le_refl _ | (have := HBO.out.size; simp; omega) | (have := HBO.out.size; omega)) _)))).mono ?_
    rintro e w1 ⟨rfl, hw1⟩
    obtain rfl := hw1.symm
    clear hw1
    go_wp2_with fail
    refine (HIS.out _ (by repeat (first | exact HBO.out | (refine Below.drew ?_) | (refine below_drewN' ?_ _) | (refine below_alloc' ?_ _) | (refine Below.setCell ?_ (by first | exact Nat.le_refl _ | (have := HBO.out.size; simp; omega) | (have := HBO.out.size; omega)) _)))).mono ?_
    rintro e w1 ⟨rfl, hb9⟩
    have HF := Lib.hid (below_trans (by repeat (first | exact HBO.out | (refine Below.drew ?_) | (refine below_drewN' ?_ _) | (refine below_alloc' ?_ _) | (refine Below.setCell ?_ (by first | exact Nat.le_refl _ | (have := HBO.out.size; simp; omega) | (have := HBO.out.size; omega)) _))) hb9)
    clear hb9
    go_wp2_with fail
    go_ret
    exact ⟨rfl, HF.out⟩
end Go.Proofs.YtjokcagggmjgmaaGreat
/-! BldA -/
namespace Go.Proofs.YtjokcagggmjgmaaGreat
open Go.RowKit
set_option linter.unusedVariables false
set_option linter.unusedSimpArgs false
set_option maxRecDepth 100000

/-- a node is handed back -/
def BldR (W : World) (k : Nat) (l : List En) (e : Ending) (w' : World) : Prop := ∃ g, e = .returned (.pointer (some ⟨g, 0, none⟩)) ∧ Nd w' k g l ∧ Below W.heap.size W w'
theorem bld_nil (w : World) (A : Option Addr) (c : Nat) : Calls Tryz.prog 69 #[.slice A 0 c] w fun e w' => e = .returned (.pointer none) ∧ w' = w := by
  go_enter Tryz.func69, Tryz.ntmps69
  go_wp2_with fail
  go_ret
  exact ⟨rfl, rfl⟩
theorem two_of {l : List En} (hne : l ≠ []) (h : ¬ (lev l : Int) - 1 < 0) : 2 ≤ l.length := by
  cases l with
  | nil => exact absurd rfl hne
  | cons x l =>
    cases l with
    | nil => rw [lev_one] at h; omega
    | cons y l => simp
theorem single_of {k : Nat} {l : List En} {p0 : List Nat} {x0 : Nat} (he : Et k l) (hne : l ≠ []) (h : (lev l : Int) - 1 < 0) (h0 : ∀ h : 0 < l.length, (l[0]'h).v = x0 ∧ (l[0]'h).p = p0) : l = [⟨p0, x0⟩] := by
  cases l with
  | nil => exact absurd rfl hne
  | cons x l =>
    cases l with
    | nil =>
      obtain ⟨h1, h2⟩ := h0 (by simp)
      simp only [List.getElem_cons_zero] at h1 h2
      rw [← h1, ← h2]
    | cons y l =>
      obtain ⟨n, pre, ks, hk, hc⟩ := kd_of he (by simp)
      have := hk.lev
      rw [hc] at this
      omega
set_option maxHeartbeats 8000000 in
theorem bld_step (w : World) (k : Nat) (l : List En) (v : Value) (k1 : 1 ≤ k) (k16 : k ≤ 16) (hv : RdE w v l) (he : EtS k l) (hne : l ≠ []) (hvv : ∀ e ∈ l, e.v < 2 ^ 64)
    (ih : ∀ (m : List En) (w' : World) (v' : Value), m.length < l.length → RdE w' v' m → EtS k m → m ≠ [] → (∀ e ∈ m, e.v < 2 ^ 64) → Calls Tryz.prog 69 #[v'] w' fun e w'' => BldR w' k m e w'') :
    Calls Tryz.prog 69 #[v] w fun e w' => BldR w k l e w' := by
  have HV := Lib.hid hv
  obtain ⟨A, c, rfl, ⟨hlc, hcm, _⟩, hx⟩ := hv
  obtain ⟨M, hM⟩ : ∃ M, l.length = M + 1 := ⟨l.length - 1, by have := List.length_pos_iff.2 hne; omega⟩
  obtain ⟨b, o, rfl, hc⟩ := hx (by omega)
  obtain ⟨u0, k00, ku0, k01⟩ := hc 0 (by omega)
  obtain ⟨u1, k10, ku1, k11⟩ := hc M (by omega)
  have e0 : l[0].p.length = k := he.et.len _ (List.getElem_mem (by omega))
  have eM : l[M].p.length = k := he.et.len _ (List.getElem_mem (by omega))
  have o0 := he.et.ok _ (List.getElem_mem (show 0 < l.length by omega))
  have oM := he.et.ok _ (List.getElem_mem (show M < l.length by omega))
  have HLF := Lib.hid (fun w' (hb : Below w.heap.size w w') => nleaf_any w' l[0].p l[0].v u0 (ku0.below hb) (by omega) (by omega) o0 (hvv _ (List.getElem_mem (by omega))))
  have HPT := Lib.hid (fun w' (hb : Below w.heap.size w w') => zPart_any l[0].p l[M].p u0 u1 w' (ku0.below hb) (ku1.below hb) (by omega) (by omega) (by omega) o0 oM)
  obtain ⟨A0, cx, rfl, z0⟩ := RdU.point ku0
  obtain ⟨A1, cy, rfl, z1⟩ := RdU.point ku1
  rw [e0] at k00 HLF HPT
  rw [eM] at k10 HPT
  simp only [Nat.zero_mul, Nat.add_zero] at k00 k01
  have hbl := World.block_lt_of_cell? w _ k00
  have HD := Lib.hid (And.intro hM (And.intro he (And.intro hlc hcm)))
  have hle : l.length ≤ 1000 := he.short
  have hM0 : (0 : Int) < (M : Int) + 1 := by omega
  have hM1 : (0 : Int) ≤ (M : Int) := by omega
  have hM2 : (M : Int) < (M : Int) + 1 := by omega
  have hM3 : (((M : Int) + 1) == 0) = false := by rw [beq_eq_false_iff_ne]; omega
  have HP0 := Lib.hid (show ∀ (h0 : 0 < l.length) (h1 : M < l.length), Zb.part l[0].p l[M].p 64 = (lev l : Int) - 1 from fun h0 h1 => by
    cases l with
    | nil => exact absurd rfl hne
    | cons x l' =>
      have e1 : (x :: l').head! = x := rfl
      have e2 : (x :: l').getLast! = (x :: l')[M] := by
        have hl : (x :: l').getLast! = (x :: l').getLast (by simp) := by simp [List.getLast!]
        rw [hl, List.getLast_eq_getElem]
        congr 1
        omega
      unfold lev
      rw [e1, e2]
      have := Zb.part_ge ((x :: l')[0].p) ((x :: l')[M].p) 64
      simp only [List.getElem_cons_zero] at this ⊢
      omega)
  have hw : wrap64 (M : Int) = (M : Int) := by unfold wrap64; omega
  have hw2 : IntKind.i64.wrap (M : Int) = (M : Int) := by rw [IntKind.wrap_i64]; omega
  obtain ⟨x0, hx0⟩ : ∃ x0, l[0].v = x0 := ⟨_, rfl⟩
  obtain ⟨x1, hx1⟩ : ∃ x1, l[M].v = x1 := ⟨_, rfl⟩
  obtain ⟨p0, hp0⟩ : ∃ p0, l[0].p = p0 := ⟨_, rfl⟩
  rw [hx0] at k01
  rw [hx1] at k11
  obtain ⟨lv, hlv⟩ : ∃ lv : Int, lv = (lev l : Int) - 1 := ⟨_, rfl⟩
  rw [HP0.out (by omega) (by omega), ← hlv] at HPT
  rw [hp0, hx0] at HLF
  rw [hM]
  have HX := Lib.hid (And.intro hc (And.intro hlv (show ∀ h : 0 < l.length, (l[0]'h).v = x0 ∧ (l[0]'h).p = p0 from fun h => ⟨hx0, hp0⟩)))
  have HVV := Lib.hid hvv
  have HIH0 := Lib.hid ih
  have HNE := Lib.hid hne
  have HES := Lib.hid he
  clear ih hc ku0 ku1 z0 z1 hx e0 eM o0 oM hvv HP0 hlc hcm hx0 hx1 hp0 hlv
  have HM := Lib.hid hM
  clear hM
  go_enter Tryz.func69, Tryz.ntmps69
  go_wp2_with fail
  go_region_held3 (fun w' => w'.cell? ⟨b, o, none⟩ = some (.slice A0 k cx) ∧ w'.cell? ⟨b, o + 1, none⟩ = some (.int .u64 (x0 : Nat)) ∧ w'.cell? ⟨b, o + M * 2, none⟩ = some (.slice A1 k cy) ∧ w'.cell? ⟨b, o + M * 2 + 1, none⟩ = some (.int .u64 (x1 : Nat)))
    (exact ⟨Below.keeps (by repeat (first | exact Below.refl _ _ | (refine Below.drew ?_) | (refine below_drewN' ?_ _) | (refine below_alloc' ?_ _) | (refine Below.setCell ?_ (by first | exact Nat.le_refl _ | (simp; done) | (simp; omega)) _))) _ _ k00, Below.keeps (by repeat (first | exact Below.refl _ _ | (refine Below.drew ?_) | (refine below_drewN' ?_ _) | (refine below_alloc' ?_ _) | (refine Below.setCell ?_ (by first | exact Nat.le_refl _ | (simp; done) | (simp; omega)) _))) _ _ k01, Below.keeps (by repeat (first | exact Below.refl _ _ | (refine Below.drew ?_) | (refine below_drewN' ?_ _) | (refine below_alloc' ?_ _) | (refine Below.setCell ?_ (by first | exact Nat.le_refl _ | (simp; done) | (simp; omega)) _))) _ _ k10, Below.keeps (by repeat (first | exact Below.refl _ _ | (refine Below.drew ?_) | (refine below_drewN' ?_ _) | (refine below_alloc' ?_ _) | (refine Below.setCell ?_ (by first | exact Nat.le_refl _ | (simp; done) | (simp; omega)) _))) _ _ k11⟩)
    (fail)
  · go_wp2_with fail
    refine (HLF.out _ (by repeat (first | exact Below.refl _ _ | (refine Below.drew ?_) | (refine below_drewN' ?_ _) | (refine below_alloc' ?_ _) | (refine Below.setCell ?_ (by first | exact Nat.le_refl _ | (simp; done) | (simp; omega)) _)))).mono ?_
    rintro e w1 ⟨g1, rfl, hn1, hb1⟩
    have f0 : w1.cell? ⟨w.heap.size, 0, none⟩ = some (.slice A0 k cx) := Below.keeps hb1 _ _ (by simp [go_sem])
    have l0 : w1.cell? ⟨w.heap.size + 1, 0, none⟩ = some (.slice A1 k cy) := Below.keeps hb1 _ _ (by simp [go_sem])
    have hfl := World.block_lt_of_cell? w1 _ f0
    have hll := World.block_lt_of_cell? w1 _ l0
    have HB1 := Lib.hid (show Below w.heap.size w w1 from below_trans (by repeat (first | exact Below.refl _ _ | (refine Below.drew ?_) | (refine below_drewN' ?_ _) | (refine below_alloc' ?_ _) | (refine Below.setCell ?_ (by first | exact Nat.le_refl _ | (simp; done) | (simp; omega)) _))) hb1)
    have HN1 := Lib.hid hn1
    clear hb1 hn1
    go_wp2_with fail
    refine (HPT.out _ HB1.out).mono ?_
    rintro e w2 ⟨rfl, hw9⟩
    obtain rfl := hw9.symm
    clear hw9 f0 l0 hfl hll
    by_cases hlv0 : lv < 0
    · have HE1 := Lib.hid (show l = [⟨p0, x0⟩] from single_of HES.out.et HNE.out (by have := HX.out.2.1; omega) HX.out.2.2)
      go_wp2_with fail
      go_ret
      exact ⟨g1, rfl, by rw [HE1.out]; exact HN1.out, HB1.out⟩
    · have hl2 : 2 ≤ l.length := two_of HNE.out (by have := HX.out.2.1; omega)
      obtain ⟨n, pre, L, hk, hL⟩ := kd_of HES.out.et hl2
      subst hL
      have hln : lv = (n : Int) := by have := HX.out.2.1; rw [this, hk.lev]; omega
      subst hln
      have HK := Lib.hid hk
      have HAX := Lib.hid (fun (i a : Nat) (hi : i < (cat L).length) (ha : Zb.addr ((cat L)[i]).p n = a) (W : World) (hb : Below w.heap.size w W) => (show ∃ (Au : Option Addr) (cu : Nat), W.cell? ⟨b, o + i * 2, none⟩ = some (.slice Au k cu) ∧ Calls Tryz.prog 102 #[.slice Au k cu, .int .i64 (n : Nat)] W fun e w' => e = .returned (.tuple #[.int .i64 (a : Nat), .int .i64 0]) ∧ w' = W from by
        obtain ⟨u, q0, qu, q1⟩ := HX.out.1 i hi
        have hlen := HES.out.et.len _ (List.getElem_mem hi)
        have hz := zAddr_any ((cat L)[i]).p n u W (qu.below hb) (by omega) (by omega) (HES.out.et.ok _ (List.getElem_mem hi)) hk.n64
        obtain ⟨Au, cu, rfl, _⟩ := RdU.point qu
        rw [hlen] at q0 hz
        rw [ha] at hz
        exact ⟨Au, cu, Below.keeps hb _ _ q0, hz⟩))
      clear hl2 hk
      go_wp2_with fail
      go_loopw [9, 10, 11, 12, 14, 16] (fun ov fv iv _ _ _ wr => ∃ (i j : Nat) (r : Option Nat), ov = pv r ∧ fv = .int .i64 ((cat (L.take j)).length : Nat) ∧ iv = .int .i64 (i : Nat) ∧ 1 ≤ i ∧ i ≤ M + 2 ∧
          ((∃ hj : j < L.length, (cat (L.take j)).length < i ∧ i ≤ (cat (L.take j)).length + L[j].2.length) ∨ (j = L.length ∧ i = M + 2)) ∧ (r = none ↔ j = 0) ∧ (∀ g, r = some g → Nd wr k g (cat (L.take j))) ∧ Below w.heap.size w wr) (fun _ _ iv _ _ _ _ => M + 2 - (intOf iv).toNat)
      case atStart =>
        have h2 := HK.out.two
        refine ⟨1, 0, none, rfl, rfl, rfl, Nat.le_refl _, by omega, .inl ⟨by omega, by simp [cat], ?_⟩, by simp, (fun g h => by cases h), HB1.out⟩
        have := List.length_pos_iff.2 (HK.out.ne _ (List.getElem_mem (show 0 < L.length by omega)))
        simp [cat]; omega
      case round =>
        obtain ⟨i, j, r, rfl, rfl, rfl, hi1, hi2, hcase, hr, hnd, hb⟩ := hrel
        have HB := Lib.hid hb
        have HMC := HM.out
        rcases hcase with ⟨hj, hF1, hF2⟩ | ⟨rfl, rfl⟩
        · have hroom := cat_room L j hj
          obtain ⟨fr, hfr⟩ : ∃ fr, (cat (L.take j)).length = fr := ⟨_, rfl⟩
          have HFR := Lib.hid hfr
          have hkadr := HK.out.adr _ (List.getElem_mem hj)
          have HFA := Lib.hid (show ∀ h : fr < (cat L).length, Zb.addr ((cat L)[fr]'h).p n = L[j].1 from fun h => by
            have h0 : 0 < L[j].2.length := List.length_pos_iff.2 (HK.out.ne _ (List.getElem_mem hj))
            have e : (cat L)[fr]'h = L[j].2[0] := by have := cat_get L j 0 hj h0 (by omega); simpa [hfr] using this
            rw [e]; exact hkadr _ (List.getElem_mem h0))
          have HFL := Lib.hid (show fr < (cat L).length by omega)
          rw [hfr] at hF1 hF2 hroom ⊢
          have h3 : (i : Int) ≤ (M : Int) + 1 := by omega
          have h5 : (0 : Int) ≤ (fr : Int) := by omega
          have h6 : (fr : Int) ≤ (i : Int) := by omega
          have h7 : (i : Int) ≤ (c : Int) := by have := HD.out.2.2.1; omega
          have h8 : (0 : Int) ≤ (i : Int) := by omega
          have h9 : (fr : Int) < (M : Int) + 1 := by omega
          have HW := Lib.hid (show wrap64 ((i : Int) + 1) = ((i + 1 : Nat) : Int) by have := HES.out.short; unfold wrap64; omega)
          by_cases hgo : i < M + 1 ∧ i < fr + L[j].2.length
          · have hd4 : (i : Int) < (M : Int) + 1 := by omega
            have hia : Zb.addr ((cat L)[i]'(by omega)).p n = L[j].1 := by
              have e : (cat L)[i]'(by omega) = L[j].2[i - fr]'(by omega) := by
                have := cat_get L j (i - fr) hj (by omega) (by rw [hfr]; omega)
                rw [← this]
                congr 1
                omega
              rw [e]; exact hkadr _ (List.getElem_mem _)
            obtain ⟨Au, cu, q0, HA1⟩ := HAX.out i _ (by omega) hia wr hb
            obtain ⟨Au2, cu2, q1, HA2⟩ := HAX.out fr _ HFL.out (HFA.out HFL.out) wr hb
            have hbw := World.block_lt_of_cell? wr _ q0
            have HREL := Lib.hid (And.intro hr (And.intro hnd hgo))
            have HREL2 := Lib.hid (show (∃ hj : j < L.length, (cat (L.take j)).length < i + 1 ∧ i + 1 ≤ (cat (L.take j)).length + L[j].2.length) from ⟨hj, by rw [hfr]; omega, by rw [hfr]; omega⟩)
            obtain ⟨a1, ha1⟩ : ∃ a1, L[j].1 = a1 := ⟨_, rfl⟩
            rw [ha1] at HA1 HA2
            obtain ⟨q, hq⟩ := pv_ex r
            have HQ := Lib.hid hq
            rw [hq]
            clear hia ha1 hkadr hr hnd hb hgo hq hi2
            go_wp2_with fail
            refine HA1.mono ?_
            rintro e w7 ⟨rfl, hw7⟩
            obtain rfl := hw7.symm
            clear hw7
            go_wp2_with fail
            refine HA2.mono ?_
            rintro e w7 ⟨rfl, hw7⟩
            obtain rfl := hw7.symm
            clear hw7
            go_wp2_with fail
            go_roundw
            case rel => exact ⟨i + 1, j, r, HQ.out.symm, by rw [HFR.out], (by first | rw [HW.out] | rfl | simp), by omega, by omega, .inl HREL2.out, HREL.out.1, HREL.out.2.1, HB.out⟩
            case measure => (first | (rw [intOf_of' HW.out, intOf_of' rfl]; omega) | (simp [intOf]; omega) | (simp [intOf] <;> omega))
          · have hiF : i = fr + L[j].2.length := by omega
            have HJ := Lib.hid hj
            have HNJ := Lib.hid (show (i < M + 1 → j + 1 < L.length) ∧ ∀ (h : i < (cat L).length) (h1 : j + 1 < L.length), Zb.addr ((cat L)[i]'h).p n = L[j + 1].1 from by
              have hs := cat_take_succ L j hj
              have hlen : (cat (L.take (j + 1))).length = i := by rw [hs, List.length_append, hfr]; omega
              refine ⟨fun h => ?_, fun h h1 => ?_⟩
              · rcases Nat.lt_or_ge (j + 1) L.length with h2 | h2
                · exact h2
                · rw [List.take_of_length_le h2] at hlen; omega
              · have h0 : 0 < L[j + 1].2.length := List.length_pos_iff.2 (HK.out.ne _ (List.getElem_mem h1))
                have e := cat_get L (j + 1) 0 h1 h0 (by omega)
                have e2 : (cat L)[i]'h = L[j + 1].2[0] := by rw [← e]; congr 1; omega
                rw [e2]; exact HK.out.adr _ (List.getElem_mem h1) _ (List.getElem_mem h0))
            have HNX := Lib.hid (show ((∃ hj : j + 1 < L.length, (cat (L.take (j + 1))).length < i + 1 ∧ i + 1 ≤ (cat (L.take (j + 1))).length + L[j + 1].2.length) ∨ (j + 1 = L.length ∧ i + 1 = M + 2)) from by
              have hs := cat_take_succ L j hj
              have hlen : (cat (L.take (j + 1))).length = i := by rw [hs, List.length_append, hfr]; omega
              rcases Nat.lt_or_ge (j + 1) L.length with h2 | h2
              · refine .inl ⟨h2, by omega, ?_⟩
                have := List.length_pos_iff.2 (HK.out.ne _ (List.getElem_mem h2))
                omega
              · refine .inr ⟨by omega, ?_⟩
                rw [List.take_of_length_le h2] at hlen; omega)
            have FEQ0 : (cat (L.take (j + 1))).length = i := by
              have hs := cat_take_succ L j hj
              rw [hs, List.length_append, hfr]; omega
            have hsl := (HV.out.drop' fr (by omega))
            rw [← List.length_drop] at hsl
            have hcf : ¬ c = fr := by have := HD.out.2.2.1; omega
            rw [if_neg hcf] at hsl
            have hsl2 := RdE.take hsl (i - fr) (by rw [List.length_drop]; omega)
            have hpart := cat_part L j hj
            rw [hfr, show L[j].2.length = i - fr by omega] at hpart
            rw [hpart] at hsl2
            have hkl := HK.out.kid_lt (List.getElem_mem hj)
            have HIH := Lib.hid (fun W (hb2 : Below wr.heap.size wr W) => HIH0.out L[j].2 W _ (by rw [← HM.out] at *; exact hkl) (hsl2.below (hb.trans (hb2.mono hb.size))) ⟨HK.out.et _ (List.getElem_mem hj), HES.out.k40, by have := HES.out.short; omega⟩ (HK.out.ne _ (List.getElem_mem hj)) (fun e he => HVV.out e (mem_cat.2 ⟨_, List.getElem_mem hj, he⟩)))
            have HIF := Lib.hid (And.intro hiF (And.intro hF1 hF2))
            clear hsl hsl2 hpart hkl hkadr hgo hi2 hiF hF1 hF2 hroom
            cases r with
            | none =>
              obtain rfl : j = 0 := hr.1 rfl
              have HT1 := Lib.hid (show cat (L.take (0 + 1)) = L[0].2 from by rw [cat_take_succ L 0 hj]; rfl)
              have FEQH := Lib.hid (show Value.int .i64 (i : Nat) = .int .i64 ((cat (L.take 1)).length : Nat) from by rw [FEQ0])
              clear hr hnd hb hfr FEQ0
              simp only [pv_none]
              by_cases hend : i < M + 1
              · have hj1 : 0 + 1 < L.length := HNJ.out.1 hend
                have hil : i < (cat L).length := by rw [HM.out]; exact hend
                obtain ⟨Au, cu, q0, HA1⟩ := HAX.out i _ hil (HNJ.out.2 hil hj1) wr HB.out
                obtain ⟨Au2, cu2, q1, HA2⟩ := HAX.out fr _ HFL.out (HFA.out HFL.out) wr HB.out
                have hbw := World.block_lt_of_cell? wr _ q0
                have hneq : ((L[0 + 1].1 : Int) == (L[0]'(by omega)).1) = false := by
                  have := List.pairwise_iff_getElem.1 HK.out.asc 0 (0 + 1) (by omega) hj1 (by omega)
                  rw [beq_eq_false_iff_ne]
                  have h9 : (L[0]'(by omega)).1 < L[0 + 1].1 := this
                  omega
                obtain ⟨a1, ha1⟩ : ∃ a1, L[0 + 1].1 = a1 := ⟨_, rfl⟩
                obtain ⟨a2, ha2⟩ : ∃ a2, (L[0]'(by omega)).1 = a2 := ⟨_, rfl⟩
                rw [ha1] at HA1 hneq
                rw [ha2] at HA2 hneq
                clear ha1 ha2
                have hd4 : (i : Int) < (M : Int) + 1 := by omega
                go_wp2_with fail
                refine HA1.mono ?_
                rintro e w7 ⟨rfl, hw7⟩
                obtain rfl := hw7.symm
                clear hw7
                go_wp2_with fail
                refine HA2.mono ?_
                rintro e w7 ⟨rfl, hw7⟩
                obtain rfl := hw7.symm
                clear hw7
                go_wp2_with fail
                refine (HIH.out _ (Below.refl _ _)).mono ?_
                rintro e w6 ⟨g2, rfl, hn2, hb2⟩
                have HN2 := Lib.hid (And.intro hn2 (HB.out.trans (hb2.mono HB.out.size)))
                have HR1 := Lib.hid (show ∀ g, some g2 = some g → Nd w6 k g (cat (L.take 1)) from fun g hg => by injection hg with hg; subst hg; rw [HT1.out]; exact hn2)
                clear hn2 hb2
                go_wp2_with fail
                go_roundw
                case rel => exact ⟨i + 1, 1, some g2, rfl, FEQH.out, (by first | rw [HW.out] | rfl | simp), by omega, by omega, HNX.out, by simp, HR1.out, HN2.out.2⟩
                case measure => (first | (rw [intOf_of' HW.out, intOf_of' rfl]; omega) | (simp [intOf]; omega) | (simp [intOf] <;> omega))
              · have hd4 : ¬ (i : Int) < (M : Int) + 1 := by omega
                go_wp2_with fail
                refine (HIH.out _ (Below.refl _ _)).mono ?_
                rintro e w6 ⟨g2, rfl, hn2, hb2⟩
                have HN2 := Lib.hid (And.intro hn2 (HB.out.trans (hb2.mono HB.out.size)))
                have HR1 := Lib.hid (show ∀ g, some g2 = some g → Nd w6 k g (cat (L.take 1)) from fun g hg => by injection hg with hg; subst hg; rw [HT1.out]; exact hn2)
                clear hn2 hb2
                go_wp2_with fail
                go_roundw
                case rel => exact ⟨i + 1, 1, some g2, rfl, FEQH.out, (by first | rw [HW.out] | rfl | simp), by omega, by omega, HNX.out, by simp, HR1.out, HN2.out.2⟩
                case measure => (first | (rw [intOf_of' HW.out, intOf_of' rfl]; omega) | (simp [intOf]; omega) | (simp [intOf] <;> omega))
            | some gx =>
              have hgx := hnd gx rfl
              have HGX := Lib.hid (show Nd wr k gx (cat (L.take j)) from hgx)
              obtain ⟨vx, kpx, hhx⟩ := hgx.hd
              obtain ⟨lvx, hlvx⟩ : ∃ lvx : Int, lvx = (lev (cat (L.take j)) : Int) - 1 := ⟨_, rfl⟩
              have HL0 := Lib.hid (show wr.cell? ⟨gx, 0, none⟩ = some (.int .i64 lvx) from hlvx ▸ hhx.c0)
              have FEQH := Lib.hid (show Value.int .i64 (i : Nat) = .int .i64 ((cat (L.take (j + 1))).length : Nat) from by rw [FEQ0])
              have hj0 : j ≠ 0 := fun h => by have := hr.2 h; cases this
              simp only [pv_some]
              by_cases hj1 : j = 1
              · subst hj1
                have hlx : lvx < (n : Int) := by
                  rw [hlvx, cat_take_succ L 0 (by omega)]
                  have := HK.out.kid_lev (List.getElem_mem (show 0 < L.length by omega))
                  simp only [List.take_zero, cat, List.flatMap_nil, List.nil_append]
                  omega
                have HPR := Lib.hid (fun (W : World) (gk : Nat) (hx : Nd W k gx (cat (L.take 1))) (hk2 : Nd W k gk L[1].2) => bld_pair W k n gx gk pre L HK.out k1 k16 HK.out.two (by have e := cat_take_succ L 0 (by omega); rw [show cat (L.take 0) = [] from rfl, List.nil_append] at e; rw [← e]; exact hx) hk2)
                clear hr hnd hb hgx hhx hlvx hj0 hfr FEQ0
                by_cases hend : i < M + 1
                · have hj1 : 1 + 1 < L.length := HNJ.out.1 hend
                  have hil : i < (cat L).length := by rw [HM.out]; exact hend
                  obtain ⟨Au, cu, q0, HA1⟩ := HAX.out i _ hil (HNJ.out.2 hil hj1) wr HB.out
                  obtain ⟨Au2, cu2, q1, HA2⟩ := HAX.out fr _ HFL.out (HFA.out HFL.out) wr HB.out
                  have hbw := World.block_lt_of_cell? wr _ q0
                  have hneq : ((L[1 + 1].1 : Int) == (L[1]'(by omega)).1) = false := by
                    have := List.pairwise_iff_getElem.1 HK.out.asc 1 (1 + 1) (by omega) hj1 (by omega)
                    rw [beq_eq_false_iff_ne]
                    have h9 : (L[1]'(by omega)).1 < L[1 + 1].1 := this
                    omega
                  obtain ⟨a1, ha1⟩ : ∃ a1, L[1 + 1].1 = a1 := ⟨_, rfl⟩
                  obtain ⟨a2, ha2⟩ : ∃ a2, (L[1]'(by omega)).1 = a2 := ⟨_, rfl⟩
                  rw [ha1] at HA1 hneq
                  rw [ha2] at HA2 hneq
                  clear ha1 ha2
                  have hd4 : (i : Int) < (M : Int) + 1 := by omega
                  go_wp2_with fail
                  refine HA1.mono ?_
                  rintro e w7 ⟨rfl, hw7⟩
                  obtain rfl := hw7.symm
                  clear hw7
                  go_wp2_with fail
                  refine HA2.mono ?_
                  rintro e w7 ⟨rfl, hw7⟩
                  obtain rfl := hw7.symm
                  clear hw7
                  go_wp2_with fail
                  refine (HIH.out _ (Below.refl _ _)).mono ?_
                  rintro e w6 ⟨g2, rfl, hn2, hb2⟩
                  have HN2 := Lib.hid (And.intro hn2 (HB.out.trans (hb2.mono HB.out.size)))
                  have HG6 := Lib.hid (HGX.out.bel hb2)
                  have HLV := Lib.hid (show w6.cell? ⟨gx, 0, none⟩ = some (.int .i64 lvx) from Below.keeps hb2 _ _ HL0.out)
                  clear hn2 hb2
                  go_wp2_with fail
                  refine (nlev_any _ gx _ HLV.out).mono ?_
                  rintro e w7 ⟨rfl, hw7⟩
                  obtain rfl := hw7.symm
                  clear hw7
                  go_wp2_with fail
                  refine (HPR.out _ _ HG6.out HN2.out.1).mono ?_
                  rintro e w8 ⟨g3, rfl, hn3, hb3⟩
                  have HN3 := Lib.hid (And.intro hn3 (HN2.out.2.trans (hb3.mono HN2.out.2.size)))
                  clear hn3 hb3
                  go_wp2_with fail
                  go_roundw
                  case rel => exact ⟨i + 1, 2, some g3, rfl, FEQH.out, (by first | rw [HW.out] | rfl | simp), by omega, by omega, HNX.out, by simp, (fun g hg => by injection hg with hg; subst hg; exact HN3.out.1), HN3.out.2⟩
                  case measure => (first | (rw [intOf_of' HW.out, intOf_of' rfl]; omega) | (simp [intOf]; omega) | (simp [intOf] <;> omega))
                · have hd4 : ¬ (i : Int) < (M : Int) + 1 := by omega
                  go_wp2_with fail
                  refine (HIH.out _ (Below.refl _ _)).mono ?_
                  rintro e w6 ⟨g2, rfl, hn2, hb2⟩
                  have HN2 := Lib.hid (And.intro hn2 (HB.out.trans (hb2.mono HB.out.size)))
                  have HG6 := Lib.hid (HGX.out.bel hb2)
                  have HLV := Lib.hid (show w6.cell? ⟨gx, 0, none⟩ = some (.int .i64 lvx) from Below.keeps hb2 _ _ HL0.out)
                  clear hn2 hb2
                  go_wp2_with fail
                  refine (nlev_any _ gx _ HLV.out).mono ?_
                  rintro e w7 ⟨rfl, hw7⟩
                  obtain rfl := hw7.symm
                  clear hw7
                  go_wp2_with fail
                  refine (HPR.out _ _ HG6.out HN2.out.1).mono ?_
                  rintro e w8 ⟨g3, rfl, hn3, hb3⟩
                  have HN3 := Lib.hid (And.intro hn3 (HN2.out.2.trans (hb3.mono HN2.out.2.size)))
                  clear hn3 hb3
                  go_wp2_with fail
                  go_roundw
                  case rel => exact ⟨i + 1, 2, some g3, rfl, FEQH.out, (by first | rw [HW.out] | rfl | simp), by omega, by omega, HNX.out, by simp, (fun g hg => by injection hg with hg; subst hg; exact HN3.out.1), HN3.out.2⟩
                  case measure => (first | (rw [intOf_of' HW.out, intOf_of' rfl]; omega) | (simp [intOf]; omega) | (simp [intOf] <;> omega))
              · have hlx : ¬ lvx < (n : Int) := by
                  rw [hlvx, (HK.out.take (show 2 ≤ j by omega) (Nat.le_of_lt hj)).lev]
                  omega
                have HWI := Lib.hid (fun (W : World) (gk : Nat) (hx : Nd W k gx (cat (L.take j))) (hk2 : Nd W k gk L[j].2) => bld_with W k n gx gk j pre L HK.out (by omega) hj hx hk2)
                clear hr hnd hb hgx hhx hlvx hj0 hj1 hfr FEQ0
                by_cases hend : i < M + 1
                · have hj1 : j + 1 < L.length := HNJ.out.1 hend
                  have hil : i < (cat L).length := by rw [HM.out]; exact hend
                  obtain ⟨Au, cu, q0, HA1⟩ := HAX.out i _ hil (HNJ.out.2 hil hj1) wr HB.out
                  obtain ⟨Au2, cu2, q1, HA2⟩ := HAX.out fr _ HFL.out (HFA.out HFL.out) wr HB.out
                  have hbw := World.block_lt_of_cell? wr _ q0
                  have hneq : ((L[j + 1].1 : Int) == (L[j]'(by omega)).1) = false := by
                    have := List.pairwise_iff_getElem.1 HK.out.asc j (j + 1) (by omega) hj1 (by omega)
                    rw [beq_eq_false_iff_ne]
                    have h9 : (L[j]'(by omega)).1 < L[j + 1].1 := this
                    omega
                  obtain ⟨a1, ha1⟩ : ∃ a1, L[j + 1].1 = a1 := ⟨_, rfl⟩
                  obtain ⟨a2, ha2⟩ : ∃ a2, (L[j]'(by omega)).1 = a2 := ⟨_, rfl⟩
                  rw [ha1] at HA1 hneq
                  rw [ha2] at HA2 hneq
                  clear ha1 ha2
                  have hd4 : (i : Int) < (M : Int) + 1 := by omega
                  go_wp2_with fail
                  refine HA1.mono ?_
                  rintro e w7 ⟨rfl, hw7⟩
                  obtain rfl := hw7.symm
                  clear hw7
                  go_wp2_with fail
                  refine HA2.mono ?_
                  rintro e w7 ⟨rfl, hw7⟩
                  obtain rfl := hw7.symm
                  clear hw7
                  go_wp2_with fail
                  refine (HIH.out _ (Below.refl _ _)).mono ?_
                  rintro e w6 ⟨g2, rfl, hn2, hb2⟩
                  have HN2 := Lib.hid (And.intro hn2 (HB.out.trans (hb2.mono HB.out.size)))
                  have HG6 := Lib.hid (HGX.out.bel hb2)
                  have HLV := Lib.hid (show w6.cell? ⟨gx, 0, none⟩ = some (.int .i64 lvx) from Below.keeps hb2 _ _ HL0.out)
                  clear hn2 hb2
                  go_wp2_with fail
                  refine (nlev_any _ gx _ HLV.out).mono ?_
                  rintro e w7 ⟨rfl, hw7⟩
                  obtain rfl := hw7.symm
                  clear hw7
                  go_wp2_with fail
                  refine (HWI.out _ _ HG6.out HN2.out.1).mono ?_
                  rintro e w8 ⟨g3, rfl, hn3, hb3⟩
                  have HN3 := Lib.hid (And.intro hn3 (HN2.out.2.trans (hb3.mono HN2.out.2.size)))
                  clear hn3 hb3
                  go_wp2_with fail
                  go_roundw
                  case rel => exact ⟨i + 1, j + 1, some g3, rfl, FEQH.out, (by first | rw [HW.out] | rfl | simp), by omega, by omega, HNX.out, by simp, (fun g hg => by injection hg with hg; subst hg; exact HN3.out.1), HN3.out.2⟩
                  case measure => (first | (rw [intOf_of' HW.out, intOf_of' rfl]; omega) | (simp [intOf]; omega) | (simp [intOf] <;> omega))
                · have hd4 : ¬ (i : Int) < (M : Int) + 1 := by omega
                  go_wp2_with fail
                  refine (HIH.out _ (Below.refl _ _)).mono ?_
                  rintro e w6 ⟨g2, rfl, hn2, hb2⟩
                  have HN2 := Lib.hid (And.intro hn2 (HB.out.trans (hb2.mono HB.out.size)))
                  have HG6 := Lib.hid (HGX.out.bel hb2)
                  have HLV := Lib.hid (show w6.cell? ⟨gx, 0, none⟩ = some (.int .i64 lvx) from Below.keeps hb2 _ _ HL0.out)
                  clear hn2 hb2
                  go_wp2_with fail
                  refine (nlev_any _ gx _ HLV.out).mono ?_
                  rintro e w7 ⟨rfl, hw7⟩
                  obtain rfl := hw7.symm
                  clear hw7
                  go_wp2_with fail
                  refine (HWI.out _ _ HG6.out HN2.out.1).mono ?_
                  rintro e w8 ⟨g3, rfl, hn3, hb3⟩
                  have HN3 := Lib.hid (And.intro hn3 (HN2.out.2.trans (hb3.mono HN2.out.2.size)))
                  clear hn3 hb3
                  go_wp2_with fail
                  go_roundw
                  case rel => exact ⟨i + 1, j + 1, some g3, rfl, FEQH.out, (by first | rw [HW.out] | rfl | simp), by omega, by omega, HNX.out, by simp, (fun g hg => by injection hg with hg; subst hg; exact HN3.out.1), HN3.out.2⟩
                  case measure => (first | (rw [intOf_of' HW.out, intOf_of' rfl]; omega) | (simp [intOf]; omega) | (simp [intOf] <;> omega))
        · have h3 : ¬ ((M + 2 : Nat) : Int) ≤ (M : Int) + 1 := by omega
          have h2 := HK.out.two
          cases r with
          | none => exact absurd (hr.1 rfl) (by omega)
          | some gx =>
            have HG := Lib.hid (hnd gx rfl)
            simp only [pv_some]
            clear hr hnd hb
            go_wp2_with fail
            go_ret
            exact ⟨gx, rfl, by have := HG.out; rw [List.take_length] at this; exact this, HB.out⟩
  · go_wp2_with fail
    refine (HLF.out _ (by repeat (first | exact Below.refl _ _ | (refine Below.drew ?_) | (refine below_drewN' ?_ _) | (refine below_alloc' ?_ _) | (refine Below.setCell ?_ (by first | exact Nat.le_refl _ | (simp; done) | (simp; omega)) _)))).mono ?_
    rintro e w1 ⟨g1, rfl, hn1, hb1⟩
    have f0 : w1.cell? ⟨w.heap.size + 1, 0, none⟩ = some (.slice A0 k cx) := Below.keeps hb1 _ _ (by simp [go_sem])
    have l0 : w1.cell? ⟨w.heap.size, 0, none⟩ = some (.slice A1 k cy) := Below.keeps hb1 _ _ (by simp [go_sem])
    have hfl := World.block_lt_of_cell? w1 _ f0
    have hll := World.block_lt_of_cell? w1 _ l0
    have HB1 := Lib.hid (show Below w.heap.size w w1 from below_trans (by repeat (first | exact Below.refl _ _ | (refine Below.drew ?_) | (refine below_drewN' ?_ _) | (refine below_alloc' ?_ _) | (refine Below.setCell ?_ (by first | exact Nat.le_refl _ | (simp; done) | (simp; omega)) _))) hb1)
    have HN1 := Lib.hid hn1
    clear hb1 hn1
    go_wp2_with fail
    refine (HPT.out _ HB1.out).mono ?_
    rintro e w2 ⟨rfl, hw9⟩
    obtain rfl := hw9.symm
    clear hw9 f0 l0 hfl hll
    by_cases hlv0 : lv < 0
    · have HE1 := Lib.hid (show l = [⟨p0, x0⟩] from single_of HES.out.et HNE.out (by have := HX.out.2.1; omega) HX.out.2.2)
      go_wp2_with fail
      go_ret
      exact ⟨g1, rfl, by rw [HE1.out]; exact HN1.out, HB1.out⟩
    · have hl2 : 2 ≤ l.length := two_of HNE.out (by have := HX.out.2.1; omega)
      obtain ⟨n, pre, L, hk, hL⟩ := kd_of HES.out.et hl2
      subst hL
      have hln : lv = (n : Int) := by have := HX.out.2.1; rw [this, hk.lev]; omega
      subst hln
      have HK := Lib.hid hk
      have HAX := Lib.hid (fun (i a : Nat) (hi : i < (cat L).length) (ha : Zb.addr ((cat L)[i]).p n = a) (W : World) (hb : Below w.heap.size w W) => (show ∃ (Au : Option Addr) (cu : Nat), W.cell? ⟨b, o + i * 2, none⟩ = some (.slice Au k cu) ∧ Calls Tryz.prog 102 #[.slice Au k cu, .int .i64 (n : Nat)] W fun e w' => e = .returned (.tuple #[.int .i64 (a : Nat), .int .i64 0]) ∧ w' = W from by
        obtain ⟨u, q0, qu, q1⟩ := HX.out.1 i hi
        have hlen := HES.out.et.len _ (List.getElem_mem hi)
        have hz := zAddr_any ((cat L)[i]).p n u W (qu.below hb) (by omega) (by omega) (HES.out.et.ok _ (List.getElem_mem hi)) hk.n64
        obtain ⟨Au, cu, rfl, _⟩ := RdU.point qu
        rw [hlen] at q0 hz
        rw [ha] at hz
        exact ⟨Au, cu, Below.keeps hb _ _ q0, hz⟩))
      clear hl2 hk
      go_wp2_with fail
      go_loopw [9, 10, 11, 12, 14, 16] (fun ov fv iv _ _ _ wr => ∃ (i j : Nat) (r : Option Nat), ov = pv r ∧ fv = .int .i64 ((cat (L.take j)).length : Nat) ∧ iv = .int .i64 (i : Nat) ∧ 1 ≤ i ∧ i ≤ M + 2 ∧
          ((∃ hj : j < L.length, (cat (L.take j)).length < i ∧ i ≤ (cat (L.take j)).length + L[j].2.length) ∨ (j = L.length ∧ i = M + 2)) ∧ (r = none ↔ j = 0) ∧ (∀ g, r = some g → Nd wr k g (cat (L.take j))) ∧ Below w.heap.size w wr) (fun _ _ iv _ _ _ _ => M + 2 - (intOf iv).toNat)
      case atStart =>
        have h2 := HK.out.two
        refine ⟨1, 0, none, rfl, rfl, rfl, Nat.le_refl _, by omega, .inl ⟨by omega, by simp [cat], ?_⟩, by simp, (fun g h => by cases h), HB1.out⟩
        have := List.length_pos_iff.2 (HK.out.ne _ (List.getElem_mem (show 0 < L.length by omega)))
        simp [cat]; omega
      case round =>
        obtain ⟨i, j, r, rfl, rfl, rfl, hi1, hi2, hcase, hr, hnd, hb⟩ := hrel
        have HB := Lib.hid hb
        have HMC := HM.out
        rcases hcase with ⟨hj, hF1, hF2⟩ | ⟨rfl, rfl⟩
        · have hroom := cat_room L j hj
          obtain ⟨fr, hfr⟩ : ∃ fr, (cat (L.take j)).length = fr := ⟨_, rfl⟩
          have HFR := Lib.hid hfr
          have hkadr := HK.out.adr _ (List.getElem_mem hj)
          have HFA := Lib.hid (show ∀ h : fr < (cat L).length, Zb.addr ((cat L)[fr]'h).p n = L[j].1 from fun h => by
            have h0 : 0 < L[j].2.length := List.length_pos_iff.2 (HK.out.ne _ (List.getElem_mem hj))
            have e : (cat L)[fr]'h = L[j].2[0] := by have := cat_get L j 0 hj h0 (by omega); simpa [hfr] using this
            rw [e]; exact hkadr _ (List.getElem_mem h0))
          have HFL := Lib.hid (show fr < (cat L).length by omega)
          rw [hfr] at hF1 hF2 hroom ⊢
          have h3 : (i : Int) ≤ (M : Int) + 1 := by omega
          have h5 : (0 : Int) ≤ (fr : Int) := by omega
          have h6 : (fr : Int) ≤ (i : Int) := by omega
          have h7 : (i : Int) ≤ (c : Int) := by have := HD.out.2.2.1; omega
          have h8 : (0 : Int) ≤ (i : Int) := by omega
          have h9 : (fr : Int) < (M : Int) + 1 := by omega
          have HW := Lib.hid (show wrap64 ((i : Int) + 1) = ((i + 1 : Nat) : Int) by have := HES.out.short; unfold wrap64; omega)
          by_cases hgo : i < M + 1 ∧ i < fr + L[j].2.length
          · have hd4 : (i : Int) < (M : Int) + 1 := by omega
            have hia : Zb.addr ((cat L)[i]'(by omega)).p n = L[j].1 := by
              have e : (cat L)[i]'(by omega) = L[j].2[i - fr]'(by omega) := by
                have := cat_get L j (i - fr) hj (by omega) (by rw [hfr]; omega)
                rw [← this]
                congr 1
                omega
              rw [e]; exact hkadr _ (List.getElem_mem _)
            obtain ⟨Au, cu, q0, HA1⟩ := HAX.out i _ (by omega) hia wr hb
            obtain ⟨Au2, cu2, q1, HA2⟩ := HAX.out fr _ HFL.out (HFA.out HFL.out) wr hb
            have hbw := World.block_lt_of_cell? wr _ q0
            have HREL := Lib.hid (And.intro hr (And.intro hnd hgo))
            have HREL2 := Lib.hid (show (∃ hj : j < L.length, (cat (L.take j)).length < i + 1 ∧ i + 1 ≤ (cat (L.take j)).length + L[j].2.length) from ⟨hj, by rw [hfr]; omega, by rw [hfr]; omega⟩)
            obtain ⟨a1, ha1⟩ : ∃ a1, L[j].1 = a1 := ⟨_, rfl⟩
            rw [ha1] at HA1 HA2
            obtain ⟨q, hq⟩ := pv_ex r
            have HQ := Lib.hid hq
            rw [hq]
            clear hia ha1 hkadr hr hnd hb hgo hq hi2
            go_wp2_with fail
            refine HA1.mono ?_
            rintro e w7 ⟨rfl, hw7⟩
            obtain rfl := hw7.symm
            clear hw7
            go_wp2_with fail
            refine HA2.mono ?_
            rintro e w7 ⟨rfl, hw7⟩
            obtain rfl := hw7.symm
            clear hw7
            go_wp2_with fail
            go_roundw
            case rel => exact ⟨i + 1, j, r, HQ.out.symm, by rw [HFR.out], (by first | rw [HW.out] | rfl | simp), by omega, by omega, .inl HREL2.out, HREL.out.1, HREL.out.2.1, HB.out⟩
            case measure => (first | (rw [intOf_of' HW.out, intOf_of' rfl]; omega) | (simp [intOf]; omega) | (simp [intOf] <;> omega))
          · have hiF : i = fr + L[j].2.length := by omega
            have HJ := Lib.hid hj
            have HNJ := Lib.hid (show (i < M + 1 → j + 1 < L.length) ∧ ∀ (h : i < (cat L).length) (h1 : j + 1 < L.length), Zb.addr ((cat L)[i]'h).p n = L[j + 1].1 from by
              have hs := cat_take_succ L j hj
              have hlen : (cat (L.take (j + 1))).length = i := by rw [hs, List.length_append, hfr]; omega
              refine ⟨fun h => ?_, fun h h1 => ?_⟩
              · rcases Nat.lt_or_ge (j + 1) L.length with h2 | h2
                · exact h2
                · rw [List.take_of_length_le h2] at hlen; omega
              · have h0 : 0 < L[j + 1].2.length := List.length_pos_iff.2 (HK.out.ne _ (List.getElem_mem h1))
                have e := cat_get L (j + 1) 0 h1 h0 (by omega)
                have e2 : (cat L)[i]'h = L[j + 1].2[0] := by rw [← e]; congr 1; omega
                rw [e2]; exact HK.out.adr _ (List.getElem_mem h1) _ (List.getElem_mem h0))
            have HNX := Lib.hid (show ((∃ hj : j + 1 < L.length, (cat (L.take (j + 1))).length < i + 1 ∧ i + 1 ≤ (cat (L.take (j + 1))).length + L[j + 1].2.length) ∨ (j + 1 = L.length ∧ i + 1 = M + 2)) from by
              have hs := cat_take_succ L j hj
              have hlen : (cat (L.take (j + 1))).length = i := by rw [hs, List.length_append, hfr]; omega
              rcases Nat.lt_or_ge (j + 1) L.length with h2 | h2
              · refine .inl ⟨h2, by omega, ?_⟩
                have := List.length_pos_iff.2 (HK.out.ne _ (List.getElem_mem h2))
                omega
              · refine .inr ⟨by omega, ?_⟩
                rw [List.take_of_length_le h2] at hlen; omega)
            have FEQ0 : (cat (L.take (j + 1))).length = i := by
              have hs := cat_take_succ L j hj
              rw [hs, List.length_append, hfr]; omega
            have hsl := (HV.out.drop' fr (by omega))
            rw [← List.length_drop] at hsl
            have hcf : ¬ c = fr := by have := HD.out.2.2.1; omega
            rw [if_neg hcf] at hsl
            have hsl2 := RdE.take hsl (i - fr) (by rw [List.length_drop]; omega)
            have hpart := cat_part L j hj
            rw [hfr, show L[j].2.length = i - fr by omega] at hpart
            rw [hpart] at hsl2
            have hkl := HK.out.kid_lt (List.getElem_mem hj)
            have HIH := Lib.hid (fun W (hb2 : Below wr.heap.size wr W) => HIH0.out L[j].2 W _ (by rw [← HM.out] at *; exact hkl) (hsl2.below (hb.trans (hb2.mono hb.size))) ⟨HK.out.et _ (List.getElem_mem hj), HES.out.k40, by have := HES.out.short; omega⟩ (HK.out.ne _ (List.getElem_mem hj)) (fun e he => HVV.out e (mem_cat.2 ⟨_, List.getElem_mem hj, he⟩)))
            have HIF := Lib.hid (And.intro hiF (And.intro hF1 hF2))
            clear hsl hsl2 hpart hkl hkadr hgo hi2 hiF hF1 hF2 hroom
            cases r with
            | none =>
              obtain rfl : j = 0 := hr.1 rfl
              have HT1 := Lib.hid (show cat (L.take (0 + 1)) = L[0].2 from by rw [cat_take_succ L 0 hj]; rfl)
              have FEQH := Lib.hid (show Value.int .i64 (i : Nat) = .int .i64 ((cat (L.take 1)).length : Nat) from by rw [FEQ0])
              clear hr hnd hb hfr FEQ0
              simp only [pv_none]
              by_cases hend : i < M + 1
              · have hj1 : 0 + 1 < L.length := HNJ.out.1 hend
                have hil : i < (cat L).length := by rw [HM.out]; exact hend
                obtain ⟨Au, cu, q0, HA1⟩ := HAX.out i _ hil (HNJ.out.2 hil hj1) wr HB.out
                obtain ⟨Au2, cu2, q1, HA2⟩ := HAX.out fr _ HFL.out (HFA.out HFL.out) wr HB.out
                have hbw := World.block_lt_of_cell? wr _ q0
                have hneq : ((L[0 + 1].1 : Int) == (L[0]'(by omega)).1) = false := by
                  have := List.pairwise_iff_getElem.1 HK.out.asc 0 (0 + 1) (by omega) hj1 (by omega)
                  rw [beq_eq_false_iff_ne]
                  have h9 : (L[0]'(by omega)).1 < L[0 + 1].1 := this
                  omega
                obtain ⟨a1, ha1⟩ : ∃ a1, L[0 + 1].1 = a1 := ⟨_, rfl⟩
                obtain ⟨a2, ha2⟩ : ∃ a2, (L[0]'(by omega)).1 = a2 := ⟨_, rfl⟩
                rw [ha1] at HA1 hneq
                rw [ha2] at HA2 hneq
                clear ha1 ha2
                have hd4 : (i : Int) < (M : Int) + 1 := by omega
                go_wp2_with fail
                refine HA1.mono ?_
                rintro e w7 ⟨rfl, hw7⟩
                obtain rfl := hw7.symm
                clear hw7
                go_wp2_with fail
                refine HA2.mono ?_
                rintro e w7 ⟨rfl, hw7⟩
                obtain rfl := hw7.symm
                clear hw7
                go_wp2_with fail
                refine (HIH.out _ (Below.refl _ _)).mono ?_
                rintro e w6 ⟨g2, rfl, hn2, hb2⟩
                have HN2 := Lib.hid (And.intro hn2 (HB.out.trans (hb2.mono HB.out.size)))
                have HR1 := Lib.hid (show ∀ g, some g2 = some g → Nd w6 k g (cat (L.take 1)) from fun g hg => by injection hg with hg; subst hg; rw [HT1.out]; exact hn2)
                clear hn2 hb2
                go_wp2_with fail
                go_roundw
                case rel => exact ⟨i + 1, 1, some g2, rfl, FEQH.out, (by first | rw [HW.out] | rfl | simp), by omega, by omega, HNX.out, by simp, HR1.out, HN2.out.2⟩
                case measure => (first | (rw [intOf_of' HW.out, intOf_of' rfl]; omega) | (simp [intOf]; omega) | (simp [intOf] <;> omega))
              · have hd4 : ¬ (i : Int) < (M : Int) + 1 := by omega
                go_wp2_with fail
                refine (HIH.out _ (Below.refl _ _)).mono ?_
                rintro e w6 ⟨g2, rfl, hn2, hb2⟩
                have HN2 := Lib.hid (And.intro hn2 (HB.out.trans (hb2.mono HB.out.size)))
                have HR1 := Lib.hid (show ∀ g, some g2 = some g → Nd w6 k g (cat (L.take 1)) from fun g hg => by injection hg with hg; subst hg; rw [HT1.out]; exact hn2)
                clear hn2 hb2
                go_wp2_with fail
                go_roundw
                case rel => exact ⟨i + 1, 1, some g2, rfl, FEQH.out, (by first | rw [HW.out] | rfl | simp), by omega, by omega, HNX.out, by simp, HR1.out, HN2.out.2⟩
                case measure => (first | (rw [intOf_of' HW.out, intOf_of' rfl]; omega) | (simp [intOf]; omega) | (simp [intOf] <;> omega))
            | some gx =>
              have hgx := hnd gx rfl
              have HGX := Lib.hid (show Nd wr k gx (cat (L.take j)) from hgx)
              obtain ⟨vx, kpx, hhx⟩ := hgx.hd
              obtain ⟨lvx, hlvx⟩ : ∃ lvx : Int, lvx = (lev (cat (L.take j)) : Int) - 1 := ⟨_, rfl⟩
              have HL0 := Lib.hid (show wr.cell? ⟨gx, 0, none⟩ = some (.int .i64 lvx) from hlvx ▸ hhx.c0)
              have FEQH := Lib.hid (show Value.int .i64 (i : Nat) = .int .i64 ((cat (L.take (j + 1))).length : Nat) from by rw [FEQ0])
              have hj0 : j ≠ 0 := fun h => by have := hr.2 h; cases this
              simp only [pv_some]
              by_cases hj1 : j = 1
              · subst hj1
                have hlx : lvx < (n : Int) := by
                  rw [hlvx, cat_take_succ L 0 (by omega)]
                  have := HK.out.kid_lev (List.getElem_mem (show 0 < L.length by omega))
                  simp only [List.take_zero, cat, List.flatMap_nil, List.nil_append]
                  omega
                have HPR := Lib.hid (fun (W : World) (gk : Nat) (hx : Nd W k gx (cat (L.take 1))) (hk2 : Nd W k gk L[1].2) => bld_pair W k n gx gk pre L HK.out k1 k16 HK.out.two (by have e := cat_take_succ L 0 (by omega); rw [show cat (L.take 0) = [] from rfl, List.nil_append] at e; rw [← e]; exact hx) hk2)
                clear hr hnd hb hgx hhx hlvx hj0 hfr FEQ0
                by_cases hend : i < M + 1
                · have hj1 : 1 + 1 < L.length := HNJ.out.1 hend
                  have hil : i < (cat L).length := by rw [HM.out]; exact hend
                  obtain ⟨Au, cu, q0, HA1⟩ := HAX.out i _ hil (HNJ.out.2 hil hj1) wr HB.out
                  obtain ⟨Au2, cu2, q1, HA2⟩ := HAX.out fr _ HFL.out (HFA.out HFL.out) wr HB.out
                  have hbw := World.block_lt_of_cell? wr _ q0
                  have hneq : ((L[1 + 1].1 : Int) == (L[1]'(by omega)).1) = false := by
                    have := List.pairwise_iff_getElem.1 HK.out.asc 1 (1 + 1) (by omega) hj1 (by omega)
                    rw [beq_eq_false_iff_ne]
                    have h9 : (L[1]'(by omega)).1 < L[1 + 1].1 := this
                    omega
                  obtain ⟨a1, ha1⟩ : ∃ a1, L[1 + 1].1 = a1 := ⟨_, rfl⟩
                  obtain ⟨a2, ha2⟩ : ∃ a2, (L[1]'(by omega)).1 = a2 := ⟨_, rfl⟩
                  rw [ha1] at HA1 hneq
                  rw [ha2] at HA2 hneq
                  clear ha1 ha2
                  have hd4 : (i : Int) < (M : Int) + 1 := by omega
                  go_wp2_with fail
                  refine HA1.mono ?_
                  rintro e w7 ⟨rfl, hw7⟩
                  obtain rfl := hw7.symm
                  clear hw7
                  go_wp2_with fail
                  refine HA2.mono ?_
                  rintro e w7 ⟨rfl, hw7⟩
                  obtain rfl := hw7.symm
                  clear hw7
                  go_wp2_with fail
                  refine (HIH.out _ (Below.refl _ _)).mono ?_
                  rintro e w6 ⟨g2, rfl, hn2, hb2⟩
                  have HN2 := Lib.hid (And.intro hn2 (HB.out.trans (hb2.mono HB.out.size)))
                  have HG6 := Lib.hid (HGX.out.bel hb2)
                  have HLV := Lib.hid (show w6.cell? ⟨gx, 0, none⟩ = some (.int .i64 lvx) from Below.keeps hb2 _ _ HL0.out)
                  clear hn2 hb2
                  go_wp2_with fail
                  refine (nlev_any _ gx _ HLV.out).mono ?_
                  rintro e w7 ⟨rfl, hw7⟩
                  obtain rfl := hw7.symm
                  clear hw7
                  go_wp2_with fail
                  refine (HPR.out _ _ HG6.out HN2.out.1).mono ?_
                  rintro e w8 ⟨g3, rfl, hn3, hb3⟩
                  have HN3 := Lib.hid (And.intro hn3 (HN2.out.2.trans (hb3.mono HN2.out.2.size)))
                  clear hn3 hb3
                  go_wp2_with fail
                  go_roundw
                  case rel => exact ⟨i + 1, 2, some g3, rfl, FEQH.out, (by first | rw [HW.out] | rfl | simp), by omega, by omega, HNX.out, by simp, (fun g hg => by injection hg with hg; subst hg; exact HN3.out.1), HN3.out.2⟩
                  case measure => (first | (rw [intOf_of' HW.out, intOf_of' rfl]; omega) | (simp [intOf]; omega) | (simp [intOf] <;> omega))
                · have hd4 : ¬ (i : Int) < (M : Int) + 1 := by omega
                  go_wp2_with fail
                  refine (HIH.out _ (Below.refl _ _)).mono ?_
                  rintro e w6 ⟨g2, rfl, hn2, hb2⟩
                  have HN2 := Lib.hid (And.intro hn2 (HB.out.trans (hb2.mono HB.out.size)))
                  have HG6 := Lib.hid (HGX.out.bel hb2)
                  have HLV := Lib.hid (show w6.cell? ⟨gx, 0, none⟩ = some (.int .i64 lvx) from Below.keeps hb2 _ _ HL0.out)
                  clear hn2 hb2
                  go_wp2_with fail
                  refine (nlev_any _ gx _ HLV.out).mono ?_
                  rintro e w7 ⟨rfl, hw7⟩
                  obtain rfl := hw7.symm
                  clear hw7
                  go_wp2_with fail
                  refine (HPR.out _ _ HG6.out HN2.out.1).mono ?_
                  rintro e w8 ⟨g3, rfl, hn3, hb3⟩
                  have HN3 := Lib.hid (And.intro hn3 (HN2.out.2.trans (hb3.mono HN2.out.2.size)))
                  clear hn3 hb3
                  go_wp2_with fail
                  go_roundw
                  case rel => exact ⟨i + 1, 2, some g3, rfl, FEQH.out, (by first | rw [HW.out] | rfl | simp), by omega, by omega, HNX.out, by simp, (fun g hg => by injection hg with hg; subst hg; exact HN3.out.1), HN3.out.2⟩
                  case measure => (first | (rw [intOf_of' HW.out, intOf_of' rfl]; omega) | (simp [intOf]; omega) | (simp [intOf] <;> omega))
              · have hlx : ¬ lvx < (n : Int) := by
                  rw [hlvx, (HK.out.take (show 2 ≤ j by omega) (Nat.le_of_lt hj)).lev]
                  omega
                have HWI := Lib.hid (fun (W : World) (gk : Nat) (hx : Nd W k gx (cat (L.take j))) (hk2 : Nd W k gk L[j].2) => bld_with W k n gx gk j pre L HK.out (by omega) hj hx hk2)
                clear hr hnd hb hgx hhx hlvx hj0 hj1 hfr FEQ0
                by_cases hend : i < M + 1
                · have hj1 : j + 1 < L.length := HNJ.out.1 hend
                  have hil : i < (cat L).length := by rw [HM.out]; exact hend
                  obtain ⟨Au, cu, q0, HA1⟩ := HAX.out i _ hil (HNJ.out.2 hil hj1) wr HB.out
                  obtain ⟨Au2, cu2, q1, HA2⟩ := HAX.out fr _ HFL.out (HFA.out HFL.out) wr HB.out
                  have hbw := World.block_lt_of_cell? wr _ q0
                  have hneq : ((L[j + 1].1 : Int) == (L[j]'(by omega)).1) = false := by
                    have := List.pairwise_iff_getElem.1 HK.out.asc j (j + 1) (by omega) hj1 (by omega)
                    rw [beq_eq_false_iff_ne]
                    have h9 : (L[j]'(by omega)).1 < L[j + 1].1 := this
                    omega
                  obtain ⟨a1, ha1⟩ : ∃ a1, L[j + 1].1 = a1 := ⟨_, rfl⟩
                  obtain ⟨a2, ha2⟩ : ∃ a2, (L[j]'(by omega)).1 = a2 := ⟨_, rfl⟩
                  rw [ha1] at HA1 hneq
                  rw [ha2] at HA2 hneq
                  clear ha1 ha2
                  have hd4 : (i : Int) < (M : Int) + 1 := by omega
                  go_wp2_with fail
                  refine HA1.mono ?_
                  rintro e w7 ⟨rfl, hw7⟩
                  obtain rfl := hw7.symm
                  clear hw7
                  go_wp2_with fail
                  refine HA2.mono ?_
                  rintro e w7 ⟨rfl, hw7⟩
                  obtain rfl := hw7.symm
                  clear hw7
                  go_wp2_with fail
                  refine (HIH.out _ (Below.refl _ _)).mono ?_
                  rintro e w6 ⟨g2, rfl, hn2, hb2⟩
                  have HN2 := Lib.hid (And.intro hn2 (HB.out.trans (hb2.mono HB.out.size)))
                  have HG6 := Lib.hid (HGX.out.bel hb2)
                  have HLV := Lib.hid (show w6.cell? ⟨gx, 0, none⟩ = some (.int .i64 lvx) from Below.keeps hb2 _ _ HL0.out)
                  clear hn2 hb2
                  go_wp2_with fail
                  refine (nlev_any _ gx _ HLV.out).mono ?_
                  rintro e w7 ⟨rfl, hw7⟩
                  obtain rfl := hw7.symm
                  clear hw7
                  go_wp2_with fail
                  refine (HWI.out _ _ HG6.out HN2.out.1).mono ?_
                  rintro e w8 ⟨g3, rfl, hn3, hb3⟩
                  have HN3 := Lib.hid (And.intro hn3 (HN2.out.2.trans (hb3.mono HN2.out.2.size)))
                  clear hn3 hb3
                  go_wp2_with fail
                  go_roundw
                  case rel => exact ⟨i + 1, j + 1, some g3, rfl, FEQH.out, (by first | rw [HW.out] | rfl | simp), by omega, by omega, HNX.out, by simp, (fun g hg => by injection hg with hg; subst hg; exact HN3.out.1), HN3.out.2⟩
                  case measure => (first | (rw [intOf_of' HW.out, intOf_of' rfl]; omega) | (simp [intOf]; omega) | (simp [intOf] <;> omega))
                · have hd4 : ¬ (i : Int) < (M : Int) + 1 := by omega
                  go_wp2_with fail
                  refine (HIH.out _ (Below.refl _ _)).mono ?_
                  rintro e w6 ⟨g2, rfl, hn2, hb2⟩
                  have HN2 := Lib.hid (And.intro hn2 (HB.out.trans (hb2.mono HB.out.size)))
                  have HG6 := Lib.hid (HGX.out.bel hb2)
                  have HLV := Lib.hid (show w6.cell? ⟨gx, 0, none⟩ = some (.int .i64 lvx) from Below.keeps hb2 _ _ HL0.out)
                  clear hn2 hb2
                  go_wp2_with fail
                  refine (nlev_any _ gx _ HLV.out).mono ?_
                  rintro e w7 ⟨rfl, hw7⟩
                  obtain rfl := hw7.symm
                  clear hw7
                  go_wp2_with fail
                  refine (HWI.out _ _ HG6.out HN2.out.1).mono ?_
                  rintro e w8 ⟨g3, rfl, hn3, hb3⟩
                  have HN3 := Lib.hid (And.intro hn3 (HN2.out.2.trans (hb3.mono HN2.out.2.size)))
                  clear hn3 hb3
                  go_wp2_with fail
                  go_roundw
                  case rel => exact ⟨i + 1, j + 1, some g3, rfl, FEQH.out, (by first | rw [HW.out] | rfl | simp), by omega, by omega, HNX.out, by simp, (fun g hg => by injection hg with hg; subst hg; exact HN3.out.1), HN3.out.2⟩
                  case measure => (first | (rw [intOf_of' HW.out, intOf_of' rfl]; omega) | (simp [intOf]; omega) | (simp [intOf] <;> omega))
        · have h3 : ¬ ((M + 2 : Nat) : Int) ≤ (M : Int) + 1 := by omega
          have h2 := HK.out.two
          cases r with
          | none => exact absurd (hr.1 rfl) (by omega)
          | some gx =>
            have HG := Lib.hid (hnd gx rfl)
            simp only [pv_some]
            clear hr hnd hb
            go_wp2_with fail
            go_ret
            exact ⟨gx, rfl, by have := HG.out; rw [List.take_length] at this; exact this, HB.out⟩
theorem build_any (k : Nat) (k1 : 1 ≤ k) (k16 : k ≤ 16) : ∀ (N : Nat) (l : List En) (w : World) (v : Value), l.length ≤ N → RdE w v l → EtS k l → l ≠ [] → (∀ e ∈ l, e.v < 2 ^ 64) →
    Calls Tryz.prog 69 #[v] w fun e w' => BldR w k l e w' := by
  intro N
  induction N with
  | zero => intro l w v hN _ _ hne _; exact absurd (List.length_eq_zero_iff.1 (by omega)) hne
  | succ N ih =>
    intro l w v hN hv he hne hvv
    exact bld_step w k l v k1 k16 hv he hne hvv fun m w' v' hm h1 h2 h3 h4 => ih m w' v' (by omega) h1 h2 h3 h4
end Go.Proofs.YtjokcagggmjgmaaGreat
/-! FitP -/
namespace Go.Proofs.YtjokcagggmjgmaaGreat
open Go.RowKit
set_option linter.unusedVariables false

end Go.Proofs.YtjokcagggmjgmaaGreat
/-! FitA -/
namespace Go.Proofs.YtjokcagggmjgmaaGreat
open Go.RowKit
set_option linter.unusedVariables false
set_option linter.unusedSimpArgs false
set_option maxRecDepth 100000

theorem enters_lit' {P : Program} {f : FuncId} {fn : Func} (hf : P.funcs[f]? = some fn) (hname : (fn.name == "runtime.NumGoroutine") = false) (hb : fn.body.isSome = true) (args : Array Value) (w : World) :
    (callFunc f args).run P w = .ok (.enter f args) w := by
  have h1 : fn.name ≠ "runtime.NumGoroutine" := by simpa using hname
  obtain ⟨c, hc⟩ := Option.isSome_iff_exists.1 hb
  simp [callFunc, hf, h1, hc]
end Go.Proofs.YtjokcagggmjgmaaGreat
