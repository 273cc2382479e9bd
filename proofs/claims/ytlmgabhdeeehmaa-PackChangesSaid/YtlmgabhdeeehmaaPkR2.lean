/-
  The walks of pack's reader: point, rises.
-/
import Derived.Test.YtlmgabhdeeehmaaPkR
import Derived.Test.YtlmgabhdeeehmaaPkC
import Derived.Test.YtlmgabhdeeehmaaThenG
namespace Go.Proofs.Ytlmgabhdeeehmaa
open Go.RowKit
set_option linter.unusedVariables false
set_option linter.unusedSimpArgs false

/-- a row of numbers that is being written: n cells, the first ones hold xs -/
def PtRow (w : World) (g n : Nat) (xs : List Nat) : Prop := ∃ cur, w.heap[g]? = some (.cells cur 32 (0, 0)) ∧ cur.size = n ∧ ∀ j (h : j < xs.length), cur[j]? = some (.int .u64 ((xs[j] : Nat) : Int))
theorem PtRow.cell {w : World} {g n : Nat} {xs : List Nat} (h : PtRow w g n xs) (j : Nat) (hj : j < n) : (∃ v, w.cell? ⟨g, j, none⟩ = some v) ∧ w.frozen? ⟨g, j, none⟩ = false := by
  obtain ⟨cur, h1, h2, h3⟩ := h
  exact ⟨⟨cur[j]'(by omega), by simp [World.cell?, h1, h2, hj]⟩, by simp [World.frozen?, h1]⟩
theorem PtRow.skip {w : World} {g n : Nat} {xs : List Nat} (h : PtRow w g n xs) (j : Nat) (hj : xs.length ≤ j) (v : Value) : PtRow (w.setCell ⟨g, j, none⟩ v) g n xs := by
  obtain ⟨cur, h1, h2, h3⟩ := h
  refine ⟨_, cells_setCell h1, by simpa using h2, fun i hi => ?_⟩
  rw [Array.getElem?_setIfInBounds_ne (by omega)]
  exact h3 i hi
theorem PtRow.set {w : World} {g n : Nat} {xs : List Nat} (h : PtRow w g n xs) (hn : xs.length < n) (x : Nat) : PtRow (w.setCell ⟨g, xs.length, none⟩ (.int .u64 (x : Nat))) g n (xs ++ [x]) := by
  obtain ⟨cur, h1, h2, h3⟩ := h
  refine ⟨_, cells_setCell h1, by simpa using h2, fun i hi => ?_⟩
  rw [List.length_append, List.length_singleton] at hi
  by_cases e : i < xs.length
  · rw [Array.getElem?_setIfInBounds_ne (by omega), List.getElem_append_left e]
    exact h3 i e
  · obtain rfl : i = xs.length := by omega
    rw [Array.getElem?_setIfInBounds_self_of_lt (by omega)]
    simp
theorem PtRow.stays {w w' : World} {g n : Nat} {xs : List Nat} (h : PtRow w g n xs) (hk : ∀ o, w.heap[g]? = some o → w'.heap[g]? = some o) : PtRow w' g n xs := let ⟨cur, h1, h2⟩ := h; ⟨cur, hk _ h1, h2⟩
theorem PtRow.lt {w : World} {g n : Nat} {xs : List Nat} (h : PtRow w g n xs) : g < w.heap.size := let ⟨_, h1, _⟩ := h; lt_of_block h1
theorem PtRow.pt {w : World} {g n : Nat} {xs : List Nat} (h : PtRow w g n xs) (hn : xs.length = n) : PtNew w (.slice (some ⟨g, 0, none⟩) n n) xs := by
  obtain ⟨cur, h1, h2, h3⟩ := h
  have hlen : (pti xs).length = n := by unfold pti; rw [List.length_map]; exact hn
  refine ⟨⟨_, n, by rw [List.length_map, hlen], fun hp => ⟨g, 0, rfl, fun j hj => ?_⟩⟩, g, 0, n, cur, _, by rw [hn], h1⟩
  rw [List.length_map, hlen] at hj
  simp only [World.cell?, h1, Nat.zero_add, Option.isSome_none, Bool.false_eq_true, if_false]
  rw [h3 j (by omega)]
  simp [pti]
theorem PtRow.not_reader {w : World} {g n G : Nat} {xs : List Nat} (h : PtRow w g n xs) {c : Array Value} {t : TypeId} {f : Nat × Nat} (hG : w.heap[G]? = some (.cells c t f)) (ht : 32 ≠ t) : g ≠ G := let ⟨_, h1, _⟩ := h; ne_type h1 hG ht
theorem wpList_make_row {w : World} {ops : Array Oper} {rest : List Oper} {o : Oper} {a : Act} {Q : Exit → Act → World → Prop} (hg : o.guard = none) (l c : Operand) (hop : o.op = .makeSlice 22 l c) (n : Nat)
    (hl : a.eval l = .int .i64 ((n : Nat) : Int)) (hc : a.eval c = .int .i64 ((n : Nat) : Int)) (hn : n ≤ 1000)
    (hK : ∀ w', PtRow w' w.heap.size n [] → Below w.heap.size w w' → wpList Try.prog ops Q rest (a.put o.dst (.slice (some ⟨w.heap.size, 0, none⟩) n n)) w') : wpList Try.prog ops Q (o :: rest) a w := by
  obtain ⟨i, hi, hz0, hz1, hz2⟩ := info_parts u64Info
  refine wpList_make_full w hg l c 22 hop w.heap.size 32 i _ 1 Try.underlying22 hi hz0 hz1 .i64 .i64 _ _ n hl hc rfl rfl (by rw [hz2]; omega) (by simp only [maxLen]; omega) (Nat.le_refl _) fun w' hown hgr => hK w' ?_ ((Below.refl _ _).grown hgr (Nat.le_refl _) (fun k h => by cases h))
  obtain ⟨h1, h2⟩ := hown
  rcases h2 with ⟨h2, _⟩ | ⟨g, cap, cur, e, q2, q3, q4, q5, q6, q7⟩
  · cases h2
  · injection e with e1 e2 e3
    injection e1 with e1
    injection e1 with e1
    subst e1 e3
    exact ⟨cur, q3, by omega, fun j hj => absurd hj (by simp)⟩

theorem cell_set_same {w : World} {a : Addr} {z : Value} (h : w.cell? a = some z) (v : Value) : (w.setCell a v).cell? a = some v := by
  exact World.cell?_setCell_same _ _ _ h
theorem cell_set_block {w : World} {a b : Addr} (v : Value) (h : a.block ≠ b.block) : (w.setCell b v).cell? a = w.cell? a := World.cell?_setCell_far _ _ _ _ (fun e => h e.symm)
theorem PtNew.setOther {w : World} {u x : Value} {p : List Nat} {g j : Nat} (h : PtNew w u p) (hg : ∀ b o n c, u = .slice (some ⟨b, o, none⟩) n c → b ≠ g) : PtNew (w.setCell ⟨g, j, none⟩ x) u p := by
  obtain ⟨h1, b, o, c, cur, fr, rfl, h2⟩ := h
  have hne := hg b o _ c rfl
  refine ⟨?_, b, o, c, cur, fr, rfl, (Below.heap_setCell _ _ _ _ hne).trans h2⟩
  obtain ⟨A, c', e, hx⟩ := h1
  refine ⟨A, c', e, fun hp => ?_⟩
  obtain ⟨b', o', ha, hc⟩ := hx hp
  refine ⟨b', o', ha, fun i hi => (cell_set_block _ ?_).trans (hc i hi)⟩
  subst ha
  injection e with e1
  injection e1 with e1
  injection e1 with e1
  show b' ≠ g
  rw [← e1]; exact hne
theorem InvR.setRow {W w : World} {G g j : Nat} {rest : List Nat} {vl x : Value} {last : Option (List Nat)} (h : InvR W G rest vl last w) (hG : g ≠ G) (hW : W.heap.size ≤ g) (hv : ∀ b o n c, vl = .slice (some ⟨b, o, none⟩) n c → b ≠ g) : InvR W G rest vl last (w.setCell ⟨g, j, none⟩ x) := by
  obtain ⟨vb, h1, h2, h3, h4, h5⟩ := h
  refine ⟨vb, (Below.heap_setCell _ _ _ _ (fun e => hG e.symm)).trans h1, h2, ?_, h4.setCell hW _, h5⟩
  cases last with
  | none => exact h3
  | some p => exact PtNew.setOther h3 hv
theorem KeepR.setNew {G g j : Nat} {w w' : World} {x : Value} (h : KeepR G w w') (hg : w.heap.size ≤ g) : KeepR G w (w'.setCell ⟨g, j, none⟩ x) :=
  ⟨fun b o h1 h2 => (Below.heap_setCell _ _ _ _ (by have := lt_of_block h1; show b ≠ g; omega)).trans (h.1 b o h1 h2), by simpa using h.2⟩
theorem Pk.lebP_cons (p q : List Nat) (j : Nat) (hp : j < p.length) (hq : j < q.length) : Pk.lebP (p.drop j) (q.drop j) = Pk.leb (p[j] ^^^ q[j]) ++ Pk.lebP (p.drop (j + 1)) (q.drop (j + 1)) := by
  rw [List.drop_eq_getElem_cons hp, List.drop_eq_getElem_cons hq]; rfl
theorem Pk.lebP_zeros (p : List Nat) : ∀ k, p.length ≤ k → Pk.lebP p (Pk.zeros k) = Pk.lebP p (Pk.zeros p.length) := by
  induction p with
  | nil => intro k _; cases k <;> rfl
  | cons c p ih =>
    intro k hk
    cases k with
    | zero => simp at hk
    | succ k => show Pk.leb _ ++ Pk.lebP p (Pk.zeros k) = _; rw [ih k (by simpa using hk)]; rfl

set_option maxRecDepth 8000 in
set_option maxHeartbeats 4000000 in
theorem rPoint_last (W w : World) (G k : Nat) (p q rest : List Nat) (vl : Value) (hi : InvR W G (Pk.lebP p q ++ rest) vl (some q) w) (hp : p.length = k) (hq : q.length = k) (h1 : 1 ≤ k) (h16 : k ≤ 16) (op : ∀ x ∈ p, x < 2 ^ 64) (hoq : ∀ x ∈ q, x < 2 ^ 64) (hr : rest.length ≤ 50000) :
    Calls Try.prog 147 #[.pointer (some ⟨G, 0, none⟩), .int .i64 (k : Nat)] w fun e w' => ∃ g, e = .returned (.slice (some ⟨g, 0, none⟩) k k) ∧ PtNew w' (.slice (some ⟨g, 0, none⟩) k k) p ∧ InvR W G rest vl (some q) w' ∧ KeepR G w w' := by
  have HD := Lib.hid (And.intro hp (And.intro hq (And.intro h1 (And.intro h16 (And.intro op (And.intro hoq hr))))))
  have HI0 := Lib.hid hi
  have hvl : PtNew w vl q := let ⟨_, _, _, h, _⟩ := hi; h
  obtain ⟨hv1, bq, oq, cq, curq, frq, rfl, hvb⟩ := hvl
  obtain ⟨A2, cq2, hv2, gb0⟩ := RdU.point hv1
  obtain ⟨bq2, oq2, rfl, gb⟩ := gb0 (by omega)
  injection hv2 with hv2 _ hv3
  injection hv2 with hv2
  injection hv2 with hv2 hv4
  subst hv2 hv3 hv4
  have hbq : bq < w.heap.size := lt_of_block hvb
  have HGb := Lib.hid gb
  clear hi hp hq h1 h16 op hoq hr gb gb0 hv1 hvb
  go_enter Try.func147, Try.ntmps147
  go_wp2_with ((at_make; refine wpList_make_row rfl _ _ rfl k rfl rfl ?_ ?_))
  · have := HD.out.2.2.2.1; omega
  intro w1 hz1 hb1
  obtain ⟨g, hg⟩ : ∃ g, w.heap.size = g := ⟨_, rfl⟩
  rw [hg] at hz1
  have HZ1 := Lib.hid hz1
  have HI1 := Lib.hid (HI0.out.below hb1)
  have HK1 := Lib.hid (KeepR.below (G := G) hb1)
  have HG := Lib.hid (show g ≠ G by have := HI0.out.lt; omega)
  have HWg := Lib.hid (show W.heap.size ≤ g by have := HI0.out.bel.size; omega)
  clear hz1 hb1
  simp only [hg]
  go_wp2_with fail
  go_loopw [11] (fun i wr => ∃ (j : Nat), j ≤ k ∧ i = .int .i64 j ∧ PtRow wr g k (p.take j) ∧ InvR W G (Pk.lebP (p.drop j) (q.drop j) ++ rest) (.slice (some ⟨bq, oq, none⟩) q.length cq) (some q) wr ∧ KeepR G w wr) (fun i _ => k - (intOf i).toNat)
  case atStart => exact ⟨0, Nat.zero_le _, rfl, HZ1.out, HI1.out, HK1.out⟩
  case round =>
    obtain ⟨j, hj, rfl, hrow, hI, hkw⟩ := hrel
    have HKw := Lib.hid hkw
    have HRow := Lib.hid hrow
    clear hkw
    by_cases hlt : j < k
    · have hlp : j < p.length := by have := HD.out.1; omega
      have hlq : j < q.length := by have := HD.out.2.1; omega
      rw [Pk.lebP_cons p q j hlp hlq, List.append_assoc] at hI
      have HI := Lib.hid hI
      have t1 : (j : Int) < k := by omega
      have t2 : (0 : Int) ≤ (j : Int) := by omega
      have t4 : (j : Int) < q.length := by omega
      have HX := Lib.hid (Nat.xor_lt_two_pow (HD.out.2.2.2.2.1 _ (List.getElem_mem hlp)) (HD.out.2.2.2.2.2.1 _ (List.getElem_mem hlq)))
      have HLen := Lib.hid (show (Pk.lebP (p.drop (j + 1)) (q.drop (j + 1)) ++ rest).length ≤ 100000 by
        have h1 := Pk.lebP_length (p.drop (j + 1)) (q.drop (j + 1))
        have h2 : (p.drop (j + 1)).length ≤ p.length := by rw [List.length_drop]; omega
        have := HD.out.1
        have := HD.out.2.2.2.1
        have := HD.out.2.2.2.2.2.2
        rw [List.length_append]; omega)
      have HW := Lib.hid (show wrap64 ((j : Int) + 1) = ((j + 1 : Nat) : Int) by have := HD.out.2.2.2.1; unfold wrap64; omega)
      clear hrow hI
      go_wp2_with fail
      refine (rNumber_any W _ G (p[j] ^^^ q[j]) _ _ (some q) HI.out HX.out HLen.out).mono ?_
      rintro e w4 ⟨rfl, hI4, hk4⟩
      have hrow4 : PtRow w4 g k (p.take j) := HRow.out.stays fun o ho => hk4.1 g o ho HG.out
      obtain ⟨⟨z0, hz0⟩, hzf⟩ := hrow4.cell j hlt
      have hlg : g < w4.heap.size := hrow4.lt
      have hrow5 := hrow4.skip j (by rw [List.length_take]; omega) (.int .u64 ((p[j] ^^^ q[j] : Nat) : Int))
      have HK4 := Lib.hid (HKw.out.trans hk4)
      have hlG : G < w4.heap.size := hI4.lt
      obtain ⟨k0', k1', kf'⟩ : w4.cell? ⟨G, 1, none⟩ = some (.slice (some ⟨bq, oq, none⟩) q.length cq) ∧ w4.cell? ⟨bq, oq + j, none⟩ = some (.int .u64 (q[j] : Nat)) ∧ bq ≠ g := by
        obtain ⟨vb, hblk, hrd, hl, hb, hGG⟩ := hI4
        refine ⟨(cells_of_two hblk).2.1, ?_, by omega⟩
        obtain ⟨A2, cq2, hv2, gb0⟩ := RdU.point hl.rd
        obtain ⟨bq2, oq2, rfl, gb⟩ := gb0 (by omega)
        injection hv2 with hv2 _ hv3
        injection hv2 with hv2
        injection hv2 with hv2 hv4
        subst hv2 hv3 hv4
        exact gb j hlq
      have HI4 := Lib.hid hI4
      have c0' : (w4.setCell ⟨g, j, none⟩ (.int .u64 ((p[j] ^^^ q[j] : Nat) : Int))).cell? ⟨g, j, none⟩ = some (.int .u64 ((p[j] ^^^ q[j] : Nat) : Int)) := cell_set_same hz0 _
      have c1' : (w4.setCell ⟨g, j, none⟩ (.int .u64 ((p[j] ^^^ q[j] : Nat) : Int))).cell? ⟨G, 1, none⟩ = some (.slice (some ⟨bq, oq, none⟩) q.length cq) := (cell_set_block _ (fun e => HG.out e.symm)).trans k0'
      have c2' : (w4.setCell ⟨g, j, none⟩ (.int .u64 ((p[j] ^^^ q[j] : Nat) : Int))).cell? ⟨bq, oq + j, none⟩ = some (.int .u64 (q[j] : Nat)) := (cell_set_block _ kf').trans k1'
      have cf' : (w4.setCell ⟨g, j, none⟩ (.int .u64 ((p[j] ^^^ q[j] : Nat) : Int))).frozen? ⟨g, j, none⟩ = false := (World.frozen?_setCell ..).trans hzf
      have hxx : bits .xor .u64 ((p[j] ^^^ q[j] : Nat) : Int) (q[j] : Int) = (p[j] : Int) := by
        rw [natCast_xor_u64 _ _ HX.out (HD.out.2.2.2.2.2.1 _ (List.getElem_mem hlq)), Nat.xor_assoc, Nat.xor_self, Nat.xor_zero]
      clear hI4 hk4 hrow4
      go_wp2_with fail
      refine wp_region_vals 13 [fun v _ => v = .slice (some ⟨g, 0, none⟩) k k,
        fun v _ => v = .int .i64 (j : Nat),
        fun v _ => v = .pointer (some ⟨g, j, none⟩),
        fun v _ => v = .int .u64 ((p[j] ^^^ q[j] : Nat) : Int),
        fun v _ => v = .pointer (some ⟨G, 0, none⟩),
        fun v _ => v = .pointer (some ⟨G, 0, none⟩),
        fun v _ => v = .pointer (some ⟨G, 1, none⟩),
        fun v _ => v = .slice (some ⟨bq, oq, none⟩) q.length cq,
        fun v _ => v = .int .i64 (j : Nat),
        fun v _ => v = .pointer (some ⟨bq, oq + j, none⟩),
        fun v _ => v = .int .u64 (q[j] : Nat),
        fun v _ => v = .int .u64 (p[j] : Nat),
        fun v _ => v = .pointer (some ⟨g, j, none⟩)]
        (by kernel_rfl) (by kernel_rfl) (by kernel_rfl) (by kernel_rfl) ?_ ?_ ?_
      · intro V hV v w1 w2 h hb
        simp only [List.mem_cons, List.not_mem_nil, or_false] at hV
        rcases hV with rfl | rfl | rfl | rfl | rfl | rfl | rfl | rfl | rfl | rfl | rfl | rfl | rfl
        all_goals first | exact h | (exact h)
      · intro i o hi ho
        match i, hi with
        | 0, _ =>
        obtain rfl := Option.some.inj ho
        intro a1 w1 K hk hK
        have e5 : a1.tmps.getD 5 undef = .slice (some ⟨g, 0, none⟩) k k := hk.same 5 (by simp)
        simp [Region.wanted, Oper.wp, Act.eval, go_sem, e5, t1, t2, t4, c0', c1', c2', hxx]
        exact hK _ _ (Below.refl _ _) rfl
        | 1, _ =>
        obtain rfl := Option.some.inj ho
        intro a1 w1 K hk hK
        have e6 : a1.tmps.getD 6 undef = .int .i64 (j : Nat) := hk.same 6 (by simp)
        simp [Region.wanted, Oper.wp, Act.eval, go_sem, e6, t1, t2, t4, c0', c1', c2', hxx]
        exact hK _ _ (Below.refl _ _) rfl
        | 2, _ =>
        obtain rfl := Option.some.inj ho
        intro a1 w1 K hk hK
        have d24 : a1.tmps.getD 24 undef = .slice (some ⟨g, 0, none⟩) k k := hk.deps ⟨0, .data⟩ (by simp) rfl _ _ rfl rfl
        have d25 : a1.tmps.getD 25 undef = .int .i64 (j : Nat) := hk.deps ⟨1, .data⟩ (by simp) rfl _ _ rfl rfl
        simp [Region.wanted, Oper.wp, Act.eval, go_sem, d24, d25, t1, t2, t4, c0', c1', c2', hxx]
        exact hK _ _ (Below.refl _ _) rfl
        | 3, _ =>
        obtain rfl := Option.some.inj ho
        intro a1 w1 K hk hK
        have d26 : a1.tmps.getD 26 undef = .pointer (some ⟨g, j, none⟩) := hk.deps ⟨2, .data⟩ (by simp) rfl _ _ rfl rfl
        have c0 : w1.cell? ⟨g, j, none⟩ = some (.int .u64 ((p[j] ^^^ q[j] : Nat) : Int)) := Below.keeps hk.ext _ _ (by simp [go_sem, t1, t2, t4, c0', c1', c2', hxx])
        have c1 : w1.cell? ⟨G, 1, none⟩ = some (.slice (some ⟨bq, oq, none⟩) q.length cq) := Below.keeps hk.ext _ _ (by simp [go_sem, t1, t2, t4, c0', c1', c2', hxx])
        have c2 : w1.cell? ⟨bq, oq + j, none⟩ = some (.int .u64 (q[j] : Nat)) := Below.keeps hk.ext _ _ (by simp [go_sem, t1, t2, t4, c0', c1', c2', hxx])
        simp [Region.wanted, Oper.wp, Act.eval, go_sem, d26, c0, c1, c2, t1, t2, t4, c0', c1', c2', hxx]
        exact hK _ _ (Below.refl _ _) rfl
        | 4, _ =>
        obtain rfl := Option.some.inj ho
        intro a1 w1 K hk hK
        have e0 : a1.tmps.getD 0 undef = .pointer (some ⟨G, 0, none⟩) := hk.same 0 (by simp)
        simp [Region.wanted, Oper.wp, Act.eval, go_sem, e0, t1, t2, t4, c0', c1', c2', hxx]
        exact hK _ _ (Below.refl _ _) rfl
        | 5, _ =>
        obtain rfl := Option.some.inj ho
        intro a1 w1 K hk hK
        have d28 : a1.tmps.getD 28 undef = .pointer (some ⟨G, 0, none⟩) := hk.deps ⟨4, .data⟩ (by simp) rfl _ _ rfl rfl
        simp [Region.wanted, Oper.wp, Act.eval, go_sem, d28, t1, t2, t4, c0', c1', c2', hxx]
        exact hK _ _ (Below.refl _ _) rfl
        | 6, _ =>
        obtain rfl := Option.some.inj ho
        intro a1 w1 K hk hK
        have d29 : a1.tmps.getD 29 undef = .pointer (some ⟨G, 0, none⟩) := hk.deps ⟨5, .data⟩ (by simp) rfl _ _ rfl rfl
        simp [Region.wanted, Oper.wp, Act.eval, go_sem, d29, t1, t2, t4, c0', c1', c2', hxx]
        exact hK _ _ (Below.refl _ _) rfl
        | 7, _ =>
        obtain rfl := Option.some.inj ho
        intro a1 w1 K hk hK
        have d30 : a1.tmps.getD 30 undef = .pointer (some ⟨G, 1, none⟩) := hk.deps ⟨6, .data⟩ (by simp) rfl _ _ rfl rfl
        have c0 : w1.cell? ⟨g, j, none⟩ = some (.int .u64 ((p[j] ^^^ q[j] : Nat) : Int)) := Below.keeps hk.ext _ _ (by simp [go_sem, t1, t2, t4, c0', c1', c2', hxx])
        have c1 : w1.cell? ⟨G, 1, none⟩ = some (.slice (some ⟨bq, oq, none⟩) q.length cq) := Below.keeps hk.ext _ _ (by simp [go_sem, t1, t2, t4, c0', c1', c2', hxx])
        have c2 : w1.cell? ⟨bq, oq + j, none⟩ = some (.int .u64 (q[j] : Nat)) := Below.keeps hk.ext _ _ (by simp [go_sem, t1, t2, t4, c0', c1', c2', hxx])
        simp [Region.wanted, Oper.wp, Act.eval, go_sem, d30, c0, c1, c2, t1, t2, t4, c0', c1', c2', hxx]
        exact hK _ _ (Below.refl _ _) rfl
        | 8, _ =>
        obtain rfl := Option.some.inj ho
        intro a1 w1 K hk hK
        have e6 : a1.tmps.getD 6 undef = .int .i64 (j : Nat) := hk.same 6 (by simp)
        simp [Region.wanted, Oper.wp, Act.eval, go_sem, e6, t1, t2, t4, c0', c1', c2', hxx]
        exact hK _ _ (Below.refl _ _) rfl
        | 9, _ =>
        obtain rfl := Option.some.inj ho
        intro a1 w1 K hk hK
        have d31 : a1.tmps.getD 31 undef = .slice (some ⟨bq, oq, none⟩) q.length cq := hk.deps ⟨7, .data⟩ (by simp) rfl _ _ rfl rfl
        have d32 : a1.tmps.getD 32 undef = .int .i64 (j : Nat) := hk.deps ⟨8, .data⟩ (by simp) rfl _ _ rfl rfl
        simp [Region.wanted, Oper.wp, Act.eval, go_sem, d31, d32, t1, t2, t4, c0', c1', c2', hxx]
        exact hK _ _ (Below.refl _ _) rfl
        | 10, _ =>
        obtain rfl := Option.some.inj ho
        intro a1 w1 K hk hK
        have d33 : a1.tmps.getD 33 undef = .pointer (some ⟨bq, oq + j, none⟩) := hk.deps ⟨9, .data⟩ (by simp) rfl _ _ rfl rfl
        have c0 : w1.cell? ⟨g, j, none⟩ = some (.int .u64 ((p[j] ^^^ q[j] : Nat) : Int)) := Below.keeps hk.ext _ _ (by simp [go_sem, t1, t2, t4, c0', c1', c2', hxx])
        have c1 : w1.cell? ⟨G, 1, none⟩ = some (.slice (some ⟨bq, oq, none⟩) q.length cq) := Below.keeps hk.ext _ _ (by simp [go_sem, t1, t2, t4, c0', c1', c2', hxx])
        have c2 : w1.cell? ⟨bq, oq + j, none⟩ = some (.int .u64 (q[j] : Nat)) := Below.keeps hk.ext _ _ (by simp [go_sem, t1, t2, t4, c0', c1', c2', hxx])
        simp [Region.wanted, Oper.wp, Act.eval, go_sem, d33, c0, c1, c2, t1, t2, t4, c0', c1', c2', hxx]
        exact hK _ _ (Below.refl _ _) rfl
        | 11, _ =>
        obtain rfl := Option.some.inj ho
        intro a1 w1 K hk hK
        have d27 : a1.tmps.getD 27 undef = .int .u64 ((p[j] ^^^ q[j] : Nat) : Int) := hk.deps ⟨3, .data⟩ (by simp) rfl _ _ rfl rfl
        have d34 : a1.tmps.getD 34 undef = .int .u64 (q[j] : Nat) := hk.deps ⟨10, .data⟩ (by simp) rfl _ _ rfl rfl
        simp [Region.wanted, Oper.wp, Act.eval, go_sem, d27, d34, t1, t2, t4, c0', c1', c2', hxx]
        exact hK _ _ (Below.refl _ _) rfl
        | 12, _ =>
        obtain rfl := Option.some.inj ho
        intro a1 w1 K hk hK
        have d24 : a1.tmps.getD 24 undef = .slice (some ⟨g, 0, none⟩) k k := hk.deps ⟨0, .data⟩ (by simp) rfl _ _ rfl rfl
        have d25 : a1.tmps.getD 25 undef = .int .i64 (j : Nat) := hk.deps ⟨1, .data⟩ (by simp) rfl _ _ rfl rfl
        simp [Region.wanted, Oper.wp, Act.eval, go_sem, d24, d25, t1, t2, t4, c0', c1', c2', hxx]
        exact hK _ _ (Below.refl _ _) rfl
      · intro vs w3 hl hb3 hv
        match vs, hl with
        | [v0, v1, v2, v3, v4, v5, v6, v7, v8, v9, v10, v11, v12], _ =>
        obtain rfl : v0 = .slice (some ⟨g, 0, none⟩) k k := hv 0 (by omega)
        obtain rfl : v1 = .int .i64 (j : Nat) := hv 1 (by omega)
        obtain rfl : v2 = .pointer (some ⟨g, j, none⟩) := hv 2 (by omega)
        obtain rfl : v3 = .int .u64 ((p[j] ^^^ q[j] : Nat) : Int) := hv 3 (by omega)
        obtain rfl : v4 = .pointer (some ⟨G, 0, none⟩) := hv 4 (by omega)
        obtain rfl : v5 = .pointer (some ⟨G, 0, none⟩) := hv 5 (by omega)
        obtain rfl : v6 = .pointer (some ⟨G, 1, none⟩) := hv 6 (by omega)
        obtain rfl : v7 = .slice (some ⟨bq, oq, none⟩) q.length cq := hv 7 (by omega)
        obtain rfl : v8 = .int .i64 (j : Nat) := hv 8 (by omega)
        obtain rfl : v9 = .pointer (some ⟨bq, oq + j, none⟩) := hv 9 (by omega)
        obtain rfl : v10 = .int .u64 (q[j] : Nat) := hv 10 (by omega)
        obtain rfl : v11 = .int .u64 (p[j] : Nat) := hv 11 (by omega)
        obtain rfl : v12 = .pointer (some ⟨g, j, none⟩) := hv 12 (by omega)
        clear hv
        simp only [putAll, List.take_succ_cons, List.take_zero, List.drop_succ_cons, List.drop_zero, Act.put, List.setIfInBounds_toArray, List.set_cons_succ, List.set_cons_zero]
        have zf3 : w3.frozen? ⟨g, j, none⟩ = false := (World.frozen?_of_block (a := ⟨g, j, none⟩) (hb3.block g (by simp; exact hlg))).trans cf'
        have zc3 := Below.keeps hb3 _ _ c0'
        have HI3 := Lib.hid ((HI4.out.setRow HG.out HWg.out (fun b o n c e => by injection e with e; injection e with e; injection e with e; rw [← e]; exact kf') : InvR _ _ _ _ _ (w4.setCell ⟨g, j, none⟩ (.int .u64 ((p[j] ^^^ q[j] : Nat) : Int)))).below hb3)
        have HR3 := Lib.hid (hrow5.stays fun o ho => (hb3.block g (by simp; exact hlg)).trans ho)
        have HK3 := Lib.hid ((HK4.out.setNew (x := .int .u64 ((p[j] ^^^ q[j] : Nat) : Int)) (j := j) (Nat.le_of_eq hg)).trans (KeepR.below hb3))
        have Hkf := Lib.hid kf'
        clear hb3 hrow5 c0' c1' c2' cf' k0' k1' hz0 hzf
        go_wp2_with fail
        go_roundw
        case rel => exact ⟨j + 1, by omega, by rw [HW.out], by have := HR3.out.set (by rw [List.length_take]; omega) p[j]; rw [List.length_take, Nat.min_eq_left (by omega)] at this; rw [List.take_succ_eq_append_getElem hlp]; exact this, HI3.out.setRow HG.out HWg.out (fun b o n c e => by injection e with e; injection e with e; injection e with e; rw [← e]; exact kf'), HK3.out.setNew (Nat.le_of_eq hg)⟩
        case measure => rw [intOf_of' HW.out, intOf_of' rfl]; omega
    · obtain rfl : j = k := by omega
      have t1 : ¬ (j : Int) < j := by omega
      rw [List.drop_of_length_le (by have := HD.out.1; omega)] at hI
      rw [List.take_of_length_le (by have := HD.out.1; omega)] at hrow
      have HI := Lib.hid hI
      have HP := Lib.hid (hrow.pt HD.out.1)
      clear hrow hI
      go_wp2_with fail
      go_ret
      exact ⟨g, rfl, HP.out, HI.out, HKw.out⟩
set_option maxRecDepth 8000 in
set_option maxHeartbeats 4000000 in
theorem rPoint_none (W w : World) (G k : Nat) (p rest : List Nat) (hi : InvR W G (Pk.lebP p (Pk.zeros k) ++ rest) (.slice none 0 0) none w) (hp : p.length = k) (h1 : 1 ≤ k) (h16 : k ≤ 16) (op : ∀ x ∈ p, x < 2 ^ 64) (hr : rest.length ≤ 50000) :
    Calls Try.prog 147 #[.pointer (some ⟨G, 0, none⟩), .int .i64 (k : Nat)] w fun e w' => ∃ g, e = .returned (.slice (some ⟨g, 0, none⟩) k k) ∧ PtNew w' (.slice (some ⟨g, 0, none⟩) k k) p ∧ InvR W G rest (.slice none 0 0) none w' ∧ KeepR G w w' := by
  have HD := Lib.hid (And.intro hp (And.intro h1 (And.intro h16 (And.intro op hr))))
  have HI0 := Lib.hid hi
  have hql : (Pk.zeros k).length = k := by simp [Pk.zeros]
  have hq0 : ∀ j (h : j < (Pk.zeros k).length), (Pk.zeros k)[j] = 0 := by intro j h; simp [Pk.zeros]
  generalize Pk.zeros k = q at *
  clear hi hp h1 h16 op hr
  go_enter Try.func147, Try.ntmps147
  go_wp2_with ((at_make; refine wpList_make_row rfl _ _ rfl k rfl rfl ?_ ?_))
  · have := HD.out.2.2.1; omega
  intro w1 hz1 hb1
  obtain ⟨g, hg⟩ : ∃ g, w.heap.size = g := ⟨_, rfl⟩
  rw [hg] at hz1
  have HZ1 := Lib.hid hz1
  have HI1 := Lib.hid (HI0.out.below hb1)
  have HK1 := Lib.hid (KeepR.below (G := G) hb1)
  have HG := Lib.hid (show g ≠ G by have := HI0.out.lt; omega)
  have HWg := Lib.hid (show W.heap.size ≤ g by have := HI0.out.bel.size; omega)
  clear hz1 hb1
  simp only [hg]
  go_wp2_with fail
  go_loopw [11] (fun i wr => ∃ (j : Nat), j ≤ k ∧ i = .int .i64 j ∧ PtRow wr g k (p.take j) ∧ InvR W G (Pk.lebP (p.drop j) (q.drop j) ++ rest) (.slice none 0 0) none wr ∧ KeepR G w wr) (fun i _ => k - (intOf i).toNat)
  case atStart => exact ⟨0, Nat.zero_le _, rfl, HZ1.out, HI1.out, HK1.out⟩
  case round =>
    obtain ⟨j, hj, rfl, hrow, hI, hkw⟩ := hrel
    have HKw := Lib.hid hkw
    have HRow := Lib.hid hrow
    clear hkw
    by_cases hlt : j < k
    · have hlp : j < p.length := by have := HD.out.1; omega
      have hlq : j < q.length := by omega
      rw [Pk.lebP_cons p q j hlp hlq, List.append_assoc] at hI
      have t1 : (j : Int) < k := by omega
      have t2 : (0 : Int) ≤ (j : Int) := by omega
      have hx0 : p[j] ^^^ q[j] = p[j] := by rw [hq0 j hlq, Nat.xor_zero]
      rw [hx0] at hI
      have HI := Lib.hid hI
      have HX := Lib.hid (HD.out.2.2.2.1 _ (List.getElem_mem hlp))
      have HLen := Lib.hid (show (Pk.lebP (p.drop (j + 1)) (q.drop (j + 1)) ++ rest).length ≤ 100000 by
        have h1 := Pk.lebP_length (p.drop (j + 1)) (q.drop (j + 1))
        have h2 : (p.drop (j + 1)).length ≤ p.length := by rw [List.length_drop]; omega
        have := HD.out.1
        have := HD.out.2.2.1
        have := HD.out.2.2.2.2
        rw [List.length_append]; omega)
      have HW := Lib.hid (show wrap64 ((j : Int) + 1) = ((j + 1 : Nat) : Int) by have := HD.out.2.2.1; unfold wrap64; omega)
      clear hrow hI
      go_wp2_with fail
      refine (rNumber_any W _ G p[j] _ _ none HI.out HX.out HLen.out).mono ?_
      rintro e w4 ⟨rfl, hI4, hk4⟩
      have hrow4 : PtRow w4 g k (p.take j) := HRow.out.stays fun o ho => hk4.1 g o ho HG.out
      obtain ⟨⟨z0, hz0⟩, hzf⟩ := hrow4.cell j hlt
      have hlg : g < w4.heap.size := hrow4.lt
      have HR5 := Lib.hid hrow4
      have HK4 := Lib.hid (HKw.out.trans hk4)
      have hlG : G < w4.heap.size := hI4.lt
      have k0' : (w4.setCell ⟨g, j, none⟩ (.int .u64 (p[j] : Nat))).cell? ⟨G, 1, none⟩ = some (.slice none 0 0) := (cell_set_block _ (fun e => HG.out e.symm)).trans (by
        obtain ⟨vb, hblk, hrd, hl, hb, hGG⟩ := hI4
        exact (cells_of_two hblk).2.1)
      have HI4 := Lib.hid hI4
      clear hI4 hk4 hrow4
      go_wp2_with fail
      go_roundw
      case rel => exact ⟨j + 1, by omega, by rw [HW.out], by have := HR5.out.set (by rw [List.length_take]; omega) p[j]; rw [List.length_take, Nat.min_eq_left (by omega)] at this; rw [List.take_succ_eq_append_getElem hlp]; exact this, HI4.out.setRow HG.out HWg.out (fun b o n c e => by cases e), HK4.out.setNew (Nat.le_of_eq hg)⟩
      case measure => rw [intOf_of' HW.out, intOf_of' rfl]; omega
    · obtain rfl : j = k := by omega
      have t1 : ¬ (j : Int) < j := by omega
      rw [List.drop_of_length_le (by have := HD.out.1; omega)] at hI
      rw [List.take_of_length_le (by have := HD.out.1; omega)] at hrow
      have HI := Lib.hid hI
      have HP := Lib.hid (hrow.pt HD.out.1)
      clear hrow hI
      go_wp2_with fail
      go_ret
      exact ⟨g, rfl, HP.out, HI.out, HKw.out⟩

theorem InvR.rise {W w : World} {G : Nat} {rest p : List Nat} {vl vp : Value} {last : Option (List Nat)} (h : InvR W G rest vl last w) (hp : PtNew w vp p) : InvR W G rest vp (some p) (w.setCell ⟨G, 1, none⟩ vp) := by
  obtain ⟨vb, h1, h2, h3, h4, h5⟩ := h
  exact ⟨vb, two_setCell h1, h2, PtNew.keepR hp h1 (by decide) KeepR.set, h4.setCell h5 _, h5⟩

set_option maxRecDepth 8000 in
set_option maxHeartbeats 4000000 in
theorem rises_any (W w : World) (G : Nat) (p rest : List Nat) (vl vp : Value) (last : Option (List Nat)) (hi : InvR W G rest vl last w) (hp : PtNew w vp p) (h1 : 1 ≤ p.length) (h16 : p.length ≤ 16) (op : ∀ x ∈ p, x < 2 ^ 64)
    (hq : ∀ q, last = some q → q.length = p.length ∧ (∀ x ∈ q, x < 2 ^ 64) ∧ Zb.cmp q p < 0) :
    Calls Try.prog 148 #[.pointer (some ⟨G, 0, none⟩), vp] w fun e w' => e = .returned (.tuple #[]) ∧ InvR W G rest vp (some p) w' ∧ KeepR G w w' := by
  have HI := Lib.hid hi
  obtain ⟨Ap, cp, rfl, _⟩ := RdU.point hp.rd
  have HP := Lib.hid hp
  obtain ⟨vb, hblk, hrd, hl, hb, hG⟩ := hi
  obtain ⟨k0, k1, kf⟩ := cells_of_two hblk
  have hlG := lt_of_block hblk
  cases last with
  | none =>
    simp only at hl
    subst hl
    clear hblk hrd hb hG hp hq
    go_enter Try.func148, Try.ntmps148
    go_wp2_with fail
    go_end0
    exact ⟨rfl, HI.out.rise HP.out, KeepR.set⟩
  | some q =>
    obtain ⟨q1, q2, q3⟩ := hq q rfl
    have HC := Lib.hid (fun (h : RdU w vl (pti q)) => zCmp_any q p vl _ w h HP.out.rd q1 (by omega) (by omega) q2 op)
    have HL := Lib.hid (show PtNew w vl q from hl)
    obtain ⟨hv1, bq, oq, cq, curq, frq, rfl, hvb⟩ := hl
    have q4 : Zb.cmp q p < 0 := q3
    generalize Zb.cmp q p = z at *
    clear hblk hrd hb hG hp hq hv1 hvb q1 q2 q3 op
    go_enter Try.func148, Try.ntmps148
    go_wp2_with fail
    refine (HC.out HL.out.rd).mono ?_
    rintro e w1 ⟨rfl, rfl⟩
    go_wp2_with fail
    refine (must_true 9 _).mono ?_
    rintro e w2 ⟨rfl, rfl⟩
    go_wp2_with fail
    go_end0
    exact ⟨rfl, HI.out.rise HP.out, KeepR.set⟩
end Go.Proofs.Ytlmgabhdeeehmaa
