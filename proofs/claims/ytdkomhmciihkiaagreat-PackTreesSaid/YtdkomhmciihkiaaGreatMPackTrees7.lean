/-
  Texts that the proof of PackTrees leans on, part 7: contracts of functions, and plain laws.
-/
import Derived.Test.YtdkomhmciihkiaaGreatMPackTrees6
import Derived.Lib.OthersKept
/-! PkR4 -/
namespace Go.Proofs.YtdkomhmciihkiaaGreat
open Go.RowKit
set_option linter.unusedVariables false
set_option linter.unusedSimpArgs false

theorem InvR.iterAt {W w : World} {G k : Nat} {rest : List Nat} {vl : Value} {last : Option (List Nat)} (h : InvR W G rest vl last w) {s : ByteArray} {pos : Nat} (hk : w.heap[k]? = some (.stringIter s pos)) (pos' : Nat) (hW : W.heap.size ≤ k) (hl : last = none) : InvR W G rest vl last (w.iterAt k s pos') := by
  subst hl
  obtain ⟨vb, h1, h2, h3, h4, h5⟩ := h
  exact ⟨vb, (Lib.iterAt_other _ _ _ _ _ (by intro e; rw [e, hk] at h1; cases h1)).trans h1, h2, h3, Lib.below_iterAt h4 hW _ _, h5⟩
/-- all blocks stand -/
def KeepH (w w' : World) : Prop := ∀ (b : Nat) (o : Obj), w.heap[b]? = some o → w'.heap[b]? = some o
theorem KeepH.below {w w' : World} (h : Below w.heap.size w w') : KeepH w w' := fun b o h1 => (h.block b (lt_of_block h1)).trans h1
theorem KeepH.keepR {w w1 w' : World} {G : Nat} (h : KeepH w w1) (hk : KeepR G w1 w') (hG : w.heap.size ≤ G) : KeepH w w' := fun b o h1 => hk.1 b o (h b o h1) (by have := lt_of_block h1; omega)
theorem KeepH.iterAt {w w1 : World} {k : Nat} {s : ByteArray} {pos : Nat} (h : KeepH w w1) (hk : w.heap.size ≤ k) : KeepH w (w1.iterAt k s pos) := fun b o h1 => (Lib.iterAt_other _ _ _ _ _ (by have := lt_of_block h1; omega)).trans (h b o h1)
/-- what open hands back -/
def OpenP (W w : World) (k n : Nat) (rest : List Nat) (e : Ending) (w' : World) : Prop :=
  ∃ G, e = .returned (.tuple #[.pointer (some ⟨G, 0, none⟩), .int .i64 (k : Nat), .int .u64 (n : Nat)]) ∧ InvR W G rest (.slice none 0 0) none w' ∧ w.heap.size ≤ G ∧ KeepH w w'

set_option maxRecDepth 8000 in
set_option maxHeartbeats 4000000 in
theorem open_any (W w : World) (x : UInt8) (hx : x.toNat < 128) (k n : Nat) (rest : List Nat) (vb : Value) (hv : RdB W vb (80 :: x.toNat :: (Pk.leb k ++ (Pk.leb n ++ rest)))) (h1 : 1 ≤ k) (h16 : k ≤ 16) (hn : n < 2 ^ 64) (hr : rest.length ≤ 30000) (hb : Below W.heap.size W w) :
    Calls Tryz.prog 85 #[vb, .string ⟨#[80, x]⟩] w fun e w' => OpenP W w k n rest e w' := by
  have HV := Lib.hid hv
  have HD := Lib.hid (And.intro h1 (And.intro h16 (And.intro hn hr)))
  have hvs : ∃ A m c, vb = .slice A m c := let ⟨A, c, e, _⟩ := hv; ⟨A, _, c, e⟩
  obtain ⟨A, m, c, rfl⟩ := hvs
  have HB := Lib.hid hb
  clear hv h1 h16 hn hr hb
  go_enter Tryz.func85, Tryz.ntmps85
  go_wp2_with fail
  have hI0 : InvR W w.heap.size (80 :: x.toNat :: (Pk.leb k ++ (Pk.leb n ++ rest))) (.slice none 0 0) none ((w.alloc (.cells #[.slice A m c, .slice none 0 0] 143)).iter ⟨#[80, x]⟩ 0) := by
    have h1 : Below w.heap.size w ((w.alloc (.cells #[.slice A m c, .slice none 0 0] 143)).alloc (.stringIter ⟨#[80, x]⟩ 0)) := (by repeat (first | exact Below.refl _ _ | assumption | (refine Below.drew ?_) | (refine below_drewN' ?_ _) | (refine below_alloc' ?_ _)))
    exact ⟨_, (Below.heap_alloc _ _ _ (by simp)).trans (heap_alloc_new _ _), HV.out, rfl, HB.out.trans (h1.mono HB.out.size), HB.out.size⟩
  have hk0 : KeepH w ((w.alloc (.cells #[.slice A m c, .slice none 0 0] 143)).iter ⟨#[80, x]⟩ 0) := KeepH.below (show Below w.heap.size w ((w.alloc (.cells #[.slice A m c, .slice none 0 0] 143)).alloc (.stringIter ⟨#[80, x]⟩ 0)) from (by repeat (first | exact Below.refl _ _ | assumption | (refine Below.drew ?_) | (refine below_drewN' ?_ _) | (refine below_alloc' ?_ _))))
  have hit0 : ((w.alloc (.cells #[.slice A m c, .slice none 0 0] 143)).iter ⟨#[80, x]⟩ 0).heap[w.heap.size + 1]? = some (.stringIter ⟨#[80, x]⟩ 0) := by
    have := World.iter_heap (w.alloc (.cells #[.slice A m c, .slice none 0 0] 143)) ⟨#[80, x]⟩ 0
    rw [World.size_alloc] at this
    exact this
  have HLen := Lib.hid (show (Pk.leb k).length ≤ 10 ∧ (Pk.leb n).length ≤ 10 ∧ rest.length ≤ 30000 from ⟨Pk.leb_length k, Pk.leb_length n, HD.out.2.2.2⟩)
  obtain ⟨G, hG⟩ : ∃ G, w.heap.size = G := ⟨_, rfl⟩
  obtain ⟨IT, hIT⟩ : ∃ IT, w.heap.size + 1 = IT := ⟨_, rfl⟩
  have HN := Lib.hid (show IT ≠ G ∧ W.heap.size ≤ IT ∧ w.heap.size ≤ IT ∧ w.heap.size ≤ G by have := HB.out.size; omega)
  rw [hG] at hI0
  rw [hIT] at hit0
  have HI0 := Lib.hid (And.intro hI0 (And.intro hit0 hk0))
  clear hI0 hit0 hk0
  simp only [hG]
  rw [hG] at hIT
  simp only [hIT]
  clear hG hIT
  go_loopw [] (fun wr => (wr.heap[IT]? = some (.stringIter ⟨#[80, x]⟩ 0) ∧ KeepH w wr ∧ InvR W G (80 :: x.toNat :: (Pk.leb k ++ (Pk.leb n ++ rest))) (.slice none 0 0) none wr) ∨ (wr.heap[IT]? = some (.stringIter ⟨#[80, x]⟩ 1) ∧ KeepH w wr ∧ InvR W G (x.toNat :: (Pk.leb k ++ (Pk.leb n ++ rest))) (.slice none 0 0) none wr) ∨
    (wr.heap[IT]? = some (.stringIter ⟨#[80, x]⟩ 2) ∧ KeepH w wr ∧ InvR W G (Pk.leb k ++ (Pk.leb n ++ rest)) (.slice none 0 0) none wr)) (fun wr => 2 - wr.iterPos IT)
  case atStart => exact .inl ⟨HI0.out.2.1, HI0.out.2.2, HI0.out.1⟩
  case round =>
    rcases hrel with ⟨hit, hkh, hI⟩ | ⟨hit, hkh, hI⟩ | ⟨hit, hkh, hI⟩
    · have HI := Lib.hid hI
      have hnx : ∀ ty, (Instr.next (.pointer (some ⟨IT, 0, none⟩)) true ty).run Tryz.prog wr = .ok (.tuple #[.bool true, .int .i64 0, .int .i32 80]) (wr.iterAt IT ⟨#[80, x]⟩ 1) := fun ty => by rw [Lib.run_next_ascii_at wr IT _ 0 ty hit (by show 0 < 2; decide) (by show (80 : UInt8).toNat < 128; decide)]; rfl
      have HIt2 := Lib.hid (Lib.iterAt_heap wr IT _ _ 1 hit)
      have HI2 := Lib.hid (HI.out.iterAt hit 1 HN.out.2.1 rfl)
      have HKh2 := Lib.hid ((Lib.hid hkh).out.iterAt (k := IT) (s := ⟨#[80, x]⟩) (pos := 1) HN.out.2.2.1)
      have hm : wr.iterPos IT = 0 := by simp [World.iterPos, hit]
      have HLen1 := Lib.hid (show (x.toNat :: (Pk.leb k ++ (Pk.leb n ++ rest))).length ≤ 1000000 by have := HLen.out; simp only [List.length_cons, List.length_append]; omega)
      have hx1 : ((#[80, x] : Array UInt8)[1]'(by show 1 < 2; decide)).toNat = x.toNat := rfl
      clear hI hkh
      go_wp2_with fail
      generalize wr.iterAt IT ⟨#[80, x]⟩ 1 = wS at *
      refine wp_region_late 1 (fun q => decide (q = 2) || decide (q = 3) || decide (q = 4)) (fun w w' => True) 5 [fun v _ => v = .pointer (some ⟨G, 0, none⟩),
        fun v9 w9 => v9 = .int .u8 80 ∧ InvR W G (x.toNat :: (Pk.leb k ++ (Pk.leb n ++ rest))) (.slice none 0 0) none w9 ∧ KeepR G wS w9,
        fun v _ => v = .string ⟨#[80, x]⟩,
        fun v _ => v = .int .i64 0,
        fun v _ => v = .int .u8 80]
        (by kernel_rfl) (by kernel_rfl) (by kernel_rfl) (by kernel_rfl) ?_ ?_ (by kernel_rfl) rfl ?_ ?_
      · intro i V hne hi v w1 w2 h hb
        match i, hne, hi with
        | 0, _, hi => obtain rfl := Option.some.inj hi; exact h
        | 1, hne, _ => exact absurd rfl hne
        | 2, _, hi => obtain rfl := Option.some.inj hi; exact h
        | 3, _, hi => obtain rfl := Option.some.inj hi; exact h
        | 4, _, hi => obtain rfl := Option.some.inj hi; exact h
        | k + 5, _, hi => simp at hi
      · intro i V hne hi v w1 w2 h hb
        match i, hne, hi with
        | 0, _, hi => obtain rfl := Option.some.inj hi; exact h
        | 1, hne, _ => exact absurd rfl hne
        | 2, _, hi => obtain rfl := Option.some.inj hi; exact h
        | 3, _, hi => obtain rfl := Option.some.inj hi; exact h
        | 4, _, hi => obtain rfl := Option.some.inj hi; exact h
        | k + 5, _, hi => simp at hi
      · intro i o hi ho
        match i, hi with
        | 0, _ =>
        obtain rfl := Option.some.inj ho
        intro a1 w1 K hk hK
        have e7 : a1.tmps.getD 7 undef = .pointer (some ⟨G, 0, none⟩) := hk.same 7 (by simp)
        simp [Region.wanted, Oper.wp, Act.eval, go_sem, e7, hx1]
        exact hK _ _ (step_early (by decide) rfl (Below.refl _ _)) rfl
        | 1, _ =>
        obtain rfl := Option.some.inj ho
        intro a1 w1 K hk hK
        have d18 : a1.tmps.getD 18 undef = .pointer (some ⟨G, 0, none⟩) := hk.deps ⟨0, .data⟩ (by simp) rfl _ _ rfl rfl
        simp [Region.wanted, Oper.wp, Act.eval, go_sem, d18, hx1]
        refine (one_any W w1 G (80) (x.toNat :: (Pk.leb k ++ (Pk.leb n ++ rest))) (.slice none 0 0) none (HI2.out.below (below_trans (by repeat (first | exact Below.refl _ _ | assumption | (refine Below.drew ?_) | (refine below_drewN' ?_ _) | (refine below_alloc' ?_ _))) (hk.ext rfl))) HLen1.out).mono ?_
        rintro e w2 ⟨rfl, hi2, hk2⟩
        exact hK _ _ (step_sp trivial) ⟨rfl, hi2, (KeepR.below (below_trans (show Below wS.heap.size wS _ from (by repeat (first | exact Below.refl _ _ | assumption | (refine Below.drew ?_) | (refine below_drewN' ?_ _) | (refine below_alloc' ?_ _)))) (hk.ext rfl))).trans hk2⟩
        | 2, _ =>
        obtain rfl := Option.some.inj ho
        intro a1 w1 K hk hK
        have e1 : a1.tmps.getD 1 undef = .string ⟨#[80, x]⟩ := hk.same 1 (by simp)
        simp [Region.wanted, Oper.wp, Act.eval, go_sem, e1, hx1]
        exact hK _ _ (step_late (by decide) rfl) rfl
        | 3, _ =>
        obtain rfl := Option.some.inj ho
        intro a1 w1 K hk hK
        have e8 : a1.tmps.getD 8 undef = .int .i64 0 := hk.same 8 (by simp)
        simp [Region.wanted, Oper.wp, Act.eval, go_sem, e8, hx1]
        exact hK _ _ (step_late (by decide) rfl) rfl
        | 4, _ =>
        obtain rfl := Option.some.inj ho
        intro a1 w1 K hk hK
        have d20 : a1.tmps.getD 20 undef = .string ⟨#[80, x]⟩ := hk.deps ⟨2, .data⟩ (by simp) rfl _ _ rfl rfl
        have d21 : a1.tmps.getD 21 undef = .int .i64 0 := hk.deps ⟨3, .data⟩ (by simp) rfl _ _ rfl rfl
        simp [Region.wanted, Oper.wp, Act.eval, go_sem, d20, d21, hx1]
        exact hK _ _ (step_late (by decide) rfl) rfl
      · intro vs w3 hl hv
        match vs, hl with
        | [v0, v1, v2, v3, v4], _ =>
        obtain rfl : v0 = .pointer (some ⟨G, 0, none⟩) := hv 0 (by omega)
        have q1 : v1 = .int .u8 80 ∧ InvR W G (x.toNat :: (Pk.leb k ++ (Pk.leb n ++ rest))) (.slice none 0 0) none w3 ∧ KeepR G wS w3 := hv 1 (by omega)
        obtain rfl : v2 = .string ⟨#[80, x]⟩ := hv 2 (by omega)
        obtain rfl : v3 = .int .i64 0 := hv 3 (by omega)
        obtain rfl : v4 = .int .u8 80 := hv 4 (by omega)
        clear hv
        simp only [putAll, List.take_succ_cons, List.take_zero, List.drop_succ_cons, List.drop_zero, Act.put, List.setIfInBounds_toArray, List.set_cons_succ, List.set_cons_zero]
        obtain ⟨rfl, hI3, hk3⟩ := q1
        have HI3 := Lib.hid hI3
        have HIt3 := Lib.hid (hk3.1 _ _ HIt2.out HN.out.1)
        have HKh3 := Lib.hid (HKh2.out.keepR hk3 HN.out.2.2.2)
        clear hI3 hk3 hnx
        go_wp2_with fail
        refine (must_true 9 _).mono ?_
        rintro e w4 ⟨rfl, hw⟩
        obtain rfl := hw.symm
        go_wp2_with fail
        go_roundw
        case rel => exact .inr (.inl ⟨HIt3.out, HKh3.out, HI3.out⟩)
        case measure => rw [hm]; simp [World.iterPos, HIt3.out]
    · have HI := Lib.hid hI
      have hnx : ∀ ty, (Instr.next (.pointer (some ⟨IT, 0, none⟩)) true ty).run Tryz.prog wr = .ok (.tuple #[.bool true, .int .i64 1, .int .i32 (x.toNat : Nat)]) (wr.iterAt IT ⟨#[80, x]⟩ 2) := fun ty => by rw [Lib.run_next_ascii_at wr IT _ 1 ty hit (by show 1 < 2; decide) hx]; rfl
      have HIt2 := Lib.hid (Lib.iterAt_heap wr IT _ _ 2 hit)
      have HI2 := Lib.hid (HI.out.iterAt hit 2 HN.out.2.1 rfl)
      have HKh2 := Lib.hid ((Lib.hid hkh).out.iterAt (k := IT) (s := ⟨#[80, x]⟩) (pos := 2) HN.out.2.2.1)
      have hm : wr.iterPos IT = 1 := by simp [World.iterPos, hit]
      have HLen1 := Lib.hid (show (Pk.leb k ++ (Pk.leb n ++ rest)).length ≤ 1000000 by have := HLen.out; simp only [List.length_cons, List.length_append]; omega)
      have hx1 : ((#[80, x] : Array UInt8)[1]'(by show 1 < 2; decide)).toNat = x.toNat := rfl
      clear hI hkh
      go_wp2_with fail
      generalize wr.iterAt IT ⟨#[80, x]⟩ 2 = wS at *
      refine wp_region_late 1 (fun q => decide (q = 2) || decide (q = 3) || decide (q = 4)) (fun w w' => True) 5 [fun v _ => v = .pointer (some ⟨G, 0, none⟩),
        fun v9 w9 => v9 = .int .u8 (x.toNat : Nat) ∧ InvR W G (Pk.leb k ++ (Pk.leb n ++ rest)) (.slice none 0 0) none w9 ∧ KeepR G wS w9,
        fun v _ => v = .string ⟨#[80, x]⟩,
        fun v _ => v = .int .i64 1,
        fun v _ => v = .int .u8 (x.toNat : Nat)]
        (by kernel_rfl) (by kernel_rfl) (by kernel_rfl) (by kernel_rfl) ?_ ?_ (by kernel_rfl) rfl ?_ ?_
      · intro i V hne hi v w1 w2 h hb
        match i, hne, hi with
        | 0, _, hi => obtain rfl := Option.some.inj hi; exact h
        | 1, hne, _ => exact absurd rfl hne
        | 2, _, hi => obtain rfl := Option.some.inj hi; exact h
        | 3, _, hi => obtain rfl := Option.some.inj hi; exact h
        | 4, _, hi => obtain rfl := Option.some.inj hi; exact h
        | k + 5, _, hi => simp at hi
      · intro i V hne hi v w1 w2 h hb
        match i, hne, hi with
        | 0, _, hi => obtain rfl := Option.some.inj hi; exact h
        | 1, hne, _ => exact absurd rfl hne
        | 2, _, hi => obtain rfl := Option.some.inj hi; exact h
        | 3, _, hi => obtain rfl := Option.some.inj hi; exact h
        | 4, _, hi => obtain rfl := Option.some.inj hi; exact h
        | k + 5, _, hi => simp at hi
      · intro i o hi ho
        match i, hi with
        | 0, _ =>
        obtain rfl := Option.some.inj ho
        intro a1 w1 K hk hK
        have e7 : a1.tmps.getD 7 undef = .pointer (some ⟨G, 0, none⟩) := hk.same 7 (by simp)
        simp [Region.wanted, Oper.wp, Act.eval, go_sem, e7, hx1]
        exact hK _ _ (step_early (by decide) rfl (Below.refl _ _)) rfl
        | 1, _ =>
        obtain rfl := Option.some.inj ho
        intro a1 w1 K hk hK
        have d18 : a1.tmps.getD 18 undef = .pointer (some ⟨G, 0, none⟩) := hk.deps ⟨0, .data⟩ (by simp) rfl _ _ rfl rfl
        simp [Region.wanted, Oper.wp, Act.eval, go_sem, d18, hx1]
        refine (one_any W w1 G (x.toNat) (Pk.leb k ++ (Pk.leb n ++ rest)) (.slice none 0 0) none (HI2.out.below (below_trans (by repeat (first | exact Below.refl _ _ | assumption | (refine Below.drew ?_) | (refine below_drewN' ?_ _) | (refine below_alloc' ?_ _))) (hk.ext rfl))) HLen1.out).mono ?_
        rintro e w2 ⟨rfl, hi2, hk2⟩
        exact hK _ _ (step_sp trivial) ⟨rfl, hi2, (KeepR.below (below_trans (show Below wS.heap.size wS _ from (by repeat (first | exact Below.refl _ _ | assumption | (refine Below.drew ?_) | (refine below_drewN' ?_ _) | (refine below_alloc' ?_ _)))) (hk.ext rfl))).trans hk2⟩
        | 2, _ =>
        obtain rfl := Option.some.inj ho
        intro a1 w1 K hk hK
        have e1 : a1.tmps.getD 1 undef = .string ⟨#[80, x]⟩ := hk.same 1 (by simp)
        simp [Region.wanted, Oper.wp, Act.eval, go_sem, e1, hx1]
        exact hK _ _ (step_late (by decide) rfl) rfl
        | 3, _ =>
        obtain rfl := Option.some.inj ho
        intro a1 w1 K hk hK
        have e8 : a1.tmps.getD 8 undef = .int .i64 1 := hk.same 8 (by simp)
        simp [Region.wanted, Oper.wp, Act.eval, go_sem, e8, hx1]
        exact hK _ _ (step_late (by decide) rfl) rfl
        | 4, _ =>
        obtain rfl := Option.some.inj ho
        intro a1 w1 K hk hK
        have d20 : a1.tmps.getD 20 undef = .string ⟨#[80, x]⟩ := hk.deps ⟨2, .data⟩ (by simp) rfl _ _ rfl rfl
        have d21 : a1.tmps.getD 21 undef = .int .i64 1 := hk.deps ⟨3, .data⟩ (by simp) rfl _ _ rfl rfl
        simp [Region.wanted, Oper.wp, Act.eval, go_sem, d20, d21, hx1]
        exact hK _ _ (step_late (by decide) rfl) rfl
      · intro vs w3 hl hv
        match vs, hl with
        | [v0, v1, v2, v3, v4], _ =>
        obtain rfl : v0 = .pointer (some ⟨G, 0, none⟩) := hv 0 (by omega)
        have q1 : v1 = .int .u8 (x.toNat : Nat) ∧ InvR W G (Pk.leb k ++ (Pk.leb n ++ rest)) (.slice none 0 0) none w3 ∧ KeepR G wS w3 := hv 1 (by omega)
        obtain rfl : v2 = .string ⟨#[80, x]⟩ := hv 2 (by omega)
        obtain rfl : v3 = .int .i64 1 := hv 3 (by omega)
        obtain rfl : v4 = .int .u8 (x.toNat : Nat) := hv 4 (by omega)
        clear hv
        simp only [putAll, List.take_succ_cons, List.take_zero, List.drop_succ_cons, List.drop_zero, Act.put, List.setIfInBounds_toArray, List.set_cons_succ, List.set_cons_zero]
        obtain ⟨rfl, hI3, hk3⟩ := q1
        have HI3 := Lib.hid hI3
        have HIt3 := Lib.hid (hk3.1 _ _ HIt2.out HN.out.1)
        have HKh3 := Lib.hid (HKh2.out.keepR hk3 HN.out.2.2.2)
        clear hI3 hk3 hnx
        go_wp2_with fail
        refine (must_true 9 _).mono ?_
        rintro e w4 ⟨rfl, hw⟩
        obtain rfl := hw.symm
        go_wp2_with fail
        go_roundw
        case rel => exact .inr (.inr ⟨HIt3.out, HKh3.out, HI3.out⟩)
        case measure => rw [hm]; simp [World.iterPos, HIt3.out]
    · have HI := Lib.hid hI
      have HKh := Lib.hid hkh
      clear hkh
      have hnx : ∀ ty, (Instr.next (.pointer (some ⟨IT, 0, none⟩)) true ty).run Tryz.prog wr = .ok (.tuple #[.bool false]) wr := fun ty => Lib.run_next_end_at wr IT _ 2 ty hit (by show ¬ 2 < 2; decide)
      have hk1 : (1 : Int) ≤ (k : Int) := by have := HD.out.1; omega
      have hk2 : (k : Int) ≤ 16 := by have := HD.out.2.1; omega
      have hk3 : (k : Int) ≥ 1 := by omega
      have hcv : IntKind.i64.wrap (k : Int) = (k : Int) := by have := HD.out.2.1; unfold IntKind.wrap; simp [IntKind.bits, IntKind.signed]; omega
      clear hI
      go_wp2_with fail
      clear hnx hit
      refine (rNumber_any W _ G k (Pk.leb n ++ rest) (.slice none 0 0) none HI.out (by have := HD.out.2.1; omega) (by have := HLen.out; simp only [List.length_append]; omega)).mono ?_
      rintro e w4 ⟨rfl, hI4, hk4⟩
      have HI4 := Lib.hid hI4
      have HKh4 := Lib.hid (HKh.out.keepR hk4 HN.out.2.2.2)
      clear hI4 hk4
      go_wp2_with fail
      refine (must_true 2 _).mono ?_
      rintro e w5 ⟨rfl, hw⟩
      obtain rfl := hw.symm
      go_wp2_with fail
      refine (rNumber_any W _ G n rest (.slice none 0 0) none HI4.out HD.out.2.2.1 (by have := HLen.out; omega)).mono ?_
      rintro e w6 ⟨rfl, hI6, hk6⟩
      have HI6 := Lib.hid hI6
      have HKh6 := Lib.hid (HKh4.out.keepR hk6 HN.out.2.2.2)
      clear hI6 hk6
      go_wp2_with fail
      go_ret3
      exact ⟨G, rfl, HI6.out, HN.out.2.2.2, HKh6.out⟩
end Go.Proofs.YtdkomhmciihkiaaGreat
/-! SrtP -/
namespace Go.Proofs.YtdkomhmciihkiaaGreat
open Go.RowKit
set_option linter.unusedVariables false

/-- an element of the row: the point's slice, the entry -/
abbrev Pe := Value × En
def ek (x : Pe) : Nat := x.2.key
def Srt (l : List Pe) : Prop := l.Pairwise fun x y => ek x ≤ ek y
/-- of each key the same ones in the same order -/
def Stb (l m : List Pe) : Prop := ∀ n, l.filter (fun x => ek x == n) = m.filter (fun x => ek x == n)
theorem Stb.refl (l : List Pe) : Stb l l := fun n => rfl
theorem Stb.symm {l m : List Pe} (h : Stb l m) : Stb m l := fun n => (h n).symm
theorem Stb.trans {l m o : List Pe} (h : Stb l m) (g : Stb m o) : Stb l o := fun n => (h n).trans (g n)
theorem Stb.append {a a' b b' : List Pe} (h : Stb a a') (g : Stb b b') : Stb (a ++ b) (a' ++ b') := fun n => by rw [List.filter_append, List.filter_append, h n, g n]
theorem Stb.mem {l m : List Pe} (h : Stb l m) {x : Pe} : x ∈ l ↔ x ∈ m := by
  have key : ∀ q : List Pe, x ∈ q ↔ x ∈ q.filter (fun y => ek y == ek x) := fun q => by simp [List.mem_filter]
  rw [key l, key m, h (ek x)]
theorem Stb.swap {X Y : List Pe} (h : ∀ x ∈ X, ∀ y ∈ Y, ek x ≠ ek y) : Stb (X ++ Y) (Y ++ X) := fun n => by
  rw [List.filter_append, List.filter_append]
  by_cases hx : X.filter (fun x => ek x == n) = []
  · rw [hx]; simp
  · obtain ⟨x, hx⟩ := List.exists_mem_of_ne_nil _ hx
    rw [List.mem_filter] at hx
    have hy : Y.filter (fun x => ek x == n) = [] := by
      rw [List.filter_eq_nil_iff]
      intro y hy hk
      refine h x hx.1 y hy ?_
      have h1 : ek x = n := by simpa using hx.2
      have h2 : ek y = n := by simpa using hk
      rw [h1, h2]
    rw [hy]; simp
/-- the last one of each key of a sorted list -/
def lastsL : List Pe → List Pe
  | [] => []
  | [x] => [x]
  | x :: y :: l => if ek x = ek y then lastsL (y :: l) else x :: lastsL (y :: l)
theorem lasts_mem {l : List Pe} {x : Pe} (h : x ∈ lastsL l) : x ∈ l := by
  induction l with
  | nil => exact h
  | cons y l ih =>
    cases l with
    | nil => exact h
    | cons z l =>
      unfold lastsL at h
      split at h
      · exact List.mem_cons_of_mem _ (ih h)
      · rcases List.mem_cons.1 h with rfl | h
        · simp
        · exact List.mem_cons_of_mem _ (ih h)
theorem lasts_asc {l : List Pe} (h : Srt l) : Od.Asc ek (lastsL l) := by
  induction l with
  | nil => exact List.Pairwise.nil
  | cons y l ih =>
    cases l with
    | nil => exact List.pairwise_singleton _ _
    | cons z l =>
      unfold lastsL
      have h1 := List.pairwise_cons.1 h
      split
      · exact ih h1.2
      · rename_i hne
        refine List.pairwise_cons.2 ⟨fun x hx => ?_, ih h1.2⟩
        have hx := lasts_mem hx
        have h2 := h1.1 z (by simp)
        rcases List.mem_cons.1 hx with rfl | hx
        · omega
        · have h3 := (List.pairwise_cons.1 h1.2).1 x hx
          omega
theorem lasts_look {l : List Pe} (h : Srt l) (n : Nat) : Od.look ek (lastsL l) n = (l.filter fun x => ek x == n).getLast? := by
  induction l with
  | nil => rfl
  | cons y l ih =>
    cases l with
    | nil =>
      unfold lastsL
      rw [Od.look_cons, Od.look_nil]
      by_cases hy : ek y = n
      · simp [hy]
      · simp [hy]
    | cons z l =>
      have h1 := List.pairwise_cons.1 h
      have ih := ih h1.2
      unfold lastsL
      by_cases hyz : ek y = ek z
      · rw [if_pos hyz, ih, List.filter_cons (x := y)]
        by_cases hy : ek y = n
        · have hz : ek z = n := by omega
          rw [if_pos (by simpa using hy), List.filter_cons, if_pos (by simpa using hz)]
          simp [List.getLast?_cons_cons]
        · rw [if_neg (by simpa using hy)]
      · rw [if_neg hyz, Od.look_cons]
        by_cases hy : ek y = n
        · rw [if_pos hy, List.filter_cons (x := y), if_pos (by simpa using hy)]
          have hn : (z :: l).filter (fun x => ek x == n) = [] := by
            rw [List.filter_eq_nil_iff]
            intro x hx hk
            have hk : ek x = n := by simpa using hk
            have h2 := h1.1 z (by simp)
            rcases List.mem_cons.1 hx with rfl | hx
            · omega
            · have h3 := (List.pairwise_cons.1 h1.2).1 x hx
              omega
          rw [hn]; rfl
        · rw [if_neg hy, ih, List.filter_cons (x := y), if_neg (by simpa using hy)]
/-- entries put one after the other -/
def putsL (a : List En) : List En → List En
  | [] => a
  | e :: l => putsL (insE e.p e.v a) l
theorem Et.puts {k : Nat} {a l : List En} (ha : Et k a) (hl : ∀ e ∈ l, e.p.length = k ∧ ∀ x ∈ e.p, x < 2 ^ 64) : Et k (putsL a l) := by
  induction l generalizing a with
  | nil => exact ha
  | cons e l ih => exact ih (ha.ins e.v (hl e (by simp)).1 (hl e (by simp)).2) fun f hf => hl f (by simp [hf])
theorem puts_look {k : Nat} {a l : List En} (ha : Et k a) (hl : ∀ e ∈ l, e.p.length = k ∧ ∀ x ∈ e.p, x < 2 ^ 64) (n : Nat) :
    Od.look En.key (putsL a l) n = match (l.filter fun e => e.key == n).getLast? with | some e => some e | none => Od.look En.key a n := by
  induction l generalizing a with
  | nil => rfl
  | cons e l ih =>
    have h1 := ih (ha.ins e.v (hl e (by simp)).1 (hl e (by simp)).2) fun f hf => hl f (by simp [hf])
    show Od.look En.key (putsL (insE e.p e.v a) l) n = _
    rw [h1, List.filter_cons]
    have h2 : Od.look En.key (insE e.p e.v a) n = if e.key = n then some e else Od.look En.key a n := (Od.asc_ins ha.asc).2 n
    by_cases he : e.key = n
    · rw [if_pos (by simpa using he)]
      cases hf : l.filter (fun e => e.key == n) with
      | nil => simp [h2, he]
      | cons f fs =>
        rw [List.getLast?_cons_cons]
        cases hz : (f :: fs).getLast? with
        | none => simp at hz
        | some z => rfl
    · rw [if_neg (by simpa using he), h2, if_neg he]
theorem puts_len (a l : List En) : (putsL a l).length ≤ a.length + l.length := by
  induction l generalizing a with
  | nil => exact Nat.le_refl _
  | cons e l ih =>
    have := ih (insE e.p e.v a)
    have h2 : (insE e.p e.v a).length ≤ a.length + 1 := Od.ins_length
    show (putsL (insE e.p e.v a) l).length ≤ _
    simp only [List.length_cons]
    omega
/-- the last ones of what has been sorted are the entries put one after the other -/
theorem lasts_puts {k : Nat} {l m : List Pe} (h : Srt m) (hs : Stb l m) (hl : ∀ x ∈ l, x.2.p.length = k ∧ ∀ c ∈ x.2.p, c < 2 ^ 64) : (lastsL m).map (·.2) = putsL [] (l.map (·.2)) := by
  have hE : Et k (putsL [] (l.map (·.2))) := Et.puts (Et.nil k) fun e he => by obtain ⟨x, hx, rfl⟩ := List.mem_map.1 he; exact hl x hx
  have hA : Od.Asc En.key ((lastsL m).map (·.2)) := by
    unfold Od.Asc; rw [List.pairwise_map]; exact lasts_asc h
  refine Od.ext (key := En.key) hA hE.asc fun n => ?_
  rw [puts_look (Et.nil k) (fun e he => by obtain ⟨x, hx, rfl⟩ := List.mem_map.1 he; exact hl x hx), Od.look_map (key := ek) (key' := En.key) (·.2) (fun x => rfl), lasts_look h, ← hs n, List.filter_map, List.getLast?_map]
  have e : (fun e : En => e.key == n) ∘ (fun x : Pe => x.2) = fun x => ek x == n := rfl
  rw [e]
  cases (l.filter fun x => ek x == n).getLast? with
  | none => rfl
  | some x => rfl
end Go.Proofs.YtdkomhmciihkiaaGreat
/-! BldA -/
namespace Go.Proofs.YtdkomhmciihkiaaGreat
open Go.RowKit
set_option linter.unusedVariables false
set_option linter.unusedSimpArgs false
set_option maxRecDepth 100000

/-- a node is handed back -/
def BldR (W : World) (k : Nat) (l : List En) (e : Ending) (w' : World) : Prop := ∃ g, e = .returned (.pointer (some ⟨g, 0, none⟩)) ∧ Nd w' k g l ∧ Below W.heap.size W w'
theorem bld_nil (w : World) (A : Option Addr) (c : Nat) : Calls Tryz.prog 146 #[.slice A 0 c] w fun e w' => e = .returned (.pointer none) ∧ w' = w := by
  go_enter Tryz.func146, Tryz.ntmps146
  go_wp2_with fail
  go_ret
  exact ⟨rfl, rfl⟩
theorem two_of {l : List En} (hne : l ≠ []) (h : ¬ (lev l : Int) - 1 < 0) : 2 ≤ l.length := by
  cases l with
  | nil => exact absurd rfl hne
  | cons x l =>
    cases l with
    | nil => rw [lev_one] at h; omega
    | cons y l => simp
theorem single_of {k : Nat} {l : List En} {p0 : List Nat} {x0 : Nat} (he : Et k l) (hne : l ≠ []) (h : (lev l : Int) - 1 < 0) (h0 : ∀ h : 0 < l.length, (l[0]'h).v = x0 ∧ (l[0]'h).p = p0) : l = [⟨p0, x0⟩] := by
  cases l with
  | nil => exact absurd rfl hne
  | cons x l =>
    cases l with
    | nil =>
      obtain ⟨h1, h2⟩ := h0 (by simp)
      simp only [List.getElem_cons_zero] at h1 h2
      rw [← h1, ← h2]
    | cons y l =>
      obtain ⟨n, pre, ks, hk, hc⟩ := kd_of he (by simp)
      have := hk.lev
      rw [hc] at this
      omega
set_option maxHeartbeats 8000000 in
theorem bld_step (w : World) (k : Nat) (l : List En) (v : Value) (k1 : 1 ≤ k) (k16 : k ≤ 16) (hv : RdE w v l) (he : EtS k l) (hne : l ≠ []) (hvv : ∀ e ∈ l, e.v < 2 ^ 64)
    (ih : ∀ (m : List En) (w' : World) (v' : Value), m.length < l.length → RdE w' v' m → EtS k m → m ≠ [] → (∀ e ∈ m, e.v < 2 ^ 64) → Calls Tryz.prog 146 #[v'] w' fun e w'' => BldR w' k m e w'') :
    Calls Tryz.prog 146 #[v] w fun e w' => BldR w k l e w' := by
  have HV := Lib.hid hv
  obtain ⟨A, c, rfl, ⟨hlc, hcm, _⟩, hx⟩ := hv
  obtain ⟨M, hM⟩ : ∃ M, l.length = M + 1 := ⟨l.length - 1, by have := List.length_pos_iff.2 hne; omega⟩
  obtain ⟨b, o, rfl, hc⟩ := hx (by omega)
  obtain ⟨u0, k00, ku0, k01⟩ := hc 0 (by omega)
  obtain ⟨u1, k10, ku1, k11⟩ := hc M (by omega)
  have e0 : l[0].p.length = k := he.et.len _ (List.getElem_mem (by omega))
  have eM : l[M].p.length = k := he.et.len _ (List.getElem_mem (by omega))
  have o0 := he.et.ok _ (List.getElem_mem (show 0 < l.length by omega))
  have oM := he.et.ok _ (List.getElem_mem (show M < l.length by omega))
  have HLF := Lib.hid (fun w' (hb : Below w.heap.size w w') => nleaf_any w' l[0].p l[0].v u0 (ku0.below hb) (by omega) (by omega) o0 (hvv _ (List.getElem_mem (by omega))))
  have HPT := Lib.hid (fun w' (hb : Below w.heap.size w w') => zPart_any l[0].p l[M].p u0 u1 w' (ku0.below hb) (ku1.below hb) (by omega) (by omega) (by omega) o0 oM)
  obtain ⟨A0, cx, rfl, z0⟩ := RdU.point ku0
  obtain ⟨A1, cy, rfl, z1⟩ := RdU.point ku1
  rw [e0] at k00 HLF HPT
  rw [eM] at k10 HPT
  simp only [Nat.zero_mul, Nat.add_zero] at k00 k01
  have hbl := World.block_lt_of_cell? w _ k00
  have HD := Lib.hid (And.intro hM (And.intro he (And.intro hlc hcm)))
  have hle : l.length ≤ 1000 := he.short
  have hM0 : (0 : Int) < (M : Int) + 1 := by omega
  have hM1 : (0 : Int) ≤ (M : Int) := by omega
  have hM2 : (M : Int) < (M : Int) + 1 := by omega
  have hM3 : (((M : Int) + 1) == 0) = false := by rw [beq_eq_false_iff_ne]; omega
  have HP0 := Lib.hid (show ∀ (h0 : 0 < l.length) (h1 : M < l.length), Zb.part l[0].p l[M].p 64 = (lev l : Int) - 1 from fun h0 h1 => by
    cases l with
    | nil => exact absurd rfl hne
    | cons x l' =>
      have e1 : (x :: l').head! = x := rfl
      have e2 : (x :: l').getLast! = (x :: l')[M] := by
        have hl : (x :: l').getLast! = (x :: l').getLast (by simp) := by simp [List.getLast!]
        rw [hl, List.getLast_eq_getElem]
        congr 1
        omega
      unfold lev
      rw [e1, e2]
      have := Zb.part_ge ((x :: l')[0].p) ((x :: l')[M].p) 64
      simp only [List.getElem_cons_zero] at this ⊢
      omega)
  have hw : wrap64 (M : Int) = (M : Int) := by unfold wrap64; omega
  have hw2 : IntKind.i64.wrap (M : Int) = (M : Int) := by rw [IntKind.wrap_i64]; omega
  obtain ⟨x0, hx0⟩ : ∃ x0, l[0].v = x0 := ⟨_, rfl⟩
  obtain ⟨x1, hx1⟩ : ∃ x1, l[M].v = x1 := ⟨_, rfl⟩
  obtain ⟨p0, hp0⟩ : ∃ p0, l[0].p = p0 := ⟨_, rfl⟩
  rw [hx0] at k01
  rw [hx1] at k11
  obtain ⟨lv, hlv⟩ : ∃ lv : Int, lv = (lev l : Int) - 1 := ⟨_, rfl⟩
  rw [HP0.out (by omega) (by omega), ← hlv] at HPT
  rw [hp0, hx0] at HLF
  rw [hM]
  have HX := Lib.hid (And.intro hc (And.intro hlv (show ∀ h : 0 < l.length, (l[0]'h).v = x0 ∧ (l[0]'h).p = p0 from fun h => ⟨hx0, hp0⟩)))
  have HVV := Lib.hid hvv
  have HIH0 := Lib.hid ih
  have HNE := Lib.hid hne
  have HES := Lib.hid he
  clear ih hc ku0 ku1 z0 z1 hx e0 eM o0 oM hvv HP0 hlc hcm hx0 hx1 hp0 hlv
  have HM := Lib.hid hM
  clear hM
  go_enter Tryz.func146, Tryz.ntmps146
  go_wp2_with fail
  go_region_held3 (fun w' => w'.cell? ⟨b, o, none⟩ = some (.slice A0 k cx) ∧ w'.cell? ⟨b, o + 1, none⟩ = some (.int .u64 (x0 : Nat)) ∧ w'.cell? ⟨b, o + M * 2, none⟩ = some (.slice A1 k cy) ∧ w'.cell? ⟨b, o + M * 2 + 1, none⟩ = some (.int .u64 (x1 : Nat)))
    (exact ⟨Below.keeps (by repeat (first | exact Below.refl _ _ | (refine Below.drew ?_) | (refine below_drewN' ?_ _) | (refine below_alloc' ?_ _) | (refine Below.setCell ?_ (by first | exact Nat.le_refl _ | (simp; done) | (simp; omega)) _))) _ _ k00, Below.keeps (by repeat (first | exact Below.refl _ _ | (refine Below.drew ?_) | (refine below_drewN' ?_ _) | (refine below_alloc' ?_ _) | (refine Below.setCell ?_ (by first | exact Nat.le_refl _ | (simp; done) | (simp; omega)) _))) _ _ k01, Below.keeps (by repeat (first | exact Below.refl _ _ | (refine Below.drew ?_) | (refine below_drewN' ?_ _) | (refine below_alloc' ?_ _) | (refine Below.setCell ?_ (by first | exact Nat.le_refl _ | (simp; done) | (simp; omega)) _))) _ _ k10, Below.keeps (by repeat (first | exact Below.refl _ _ | (refine Below.drew ?_) | (refine below_drewN' ?_ _) | (refine below_alloc' ?_ _) | (refine Below.setCell ?_ (by first | exact Nat.le_refl _ | (simp; done) | (simp; omega)) _))) _ _ k11⟩)
    (fail)
  · go_wp2_with fail
    refine (HLF.out _ (by repeat (first | exact Below.refl _ _ | (refine Below.drew ?_) | (refine below_drewN' ?_ _) | (refine below_alloc' ?_ _) | (refine Below.setCell ?_ (by first | exact Nat.le_refl _ | (simp; done) | (simp; omega)) _)))).mono ?_
    rintro e w1 ⟨g1, rfl, hn1, hb1⟩
    have f0 : w1.cell? ⟨w.heap.size, 0, none⟩ = some (.slice A0 k cx) := Below.keeps hb1 _ _ (by simp [go_sem])
    have l0 : w1.cell? ⟨w.heap.size + 1, 0, none⟩ = some (.slice A1 k cy) := Below.keeps hb1 _ _ (by simp [go_sem])
    have hfl := World.block_lt_of_cell? w1 _ f0
    have hll := World.block_lt_of_cell? w1 _ l0
    have HB1 := Lib.hid (show Below w.heap.size w w1 from below_trans (by repeat (first | exact Below.refl _ _ | (refine Below.drew ?_) | (refine below_drewN' ?_ _) | (refine below_alloc' ?_ _) | (refine Below.setCell ?_ (by first | exact Nat.le_refl _ | (simp; done) | (simp; omega)) _))) hb1)
    have HN1 := Lib.hid hn1
    clear hb1 hn1
    go_wp2_with fail
    refine (HPT.out _ HB1.out).mono ?_
    rintro e w2 ⟨rfl, hw9⟩
    obtain rfl := hw9.symm
    clear hw9 f0 l0 hfl hll
    by_cases hlv0 : lv < 0
    · have HE1 := Lib.hid (show l = [⟨p0, x0⟩] from single_of HES.out.et HNE.out (by have := HX.out.2.1; omega) HX.out.2.2)
      go_wp2_with fail
      go_ret
      exact ⟨g1, rfl, by rw [HE1.out]; exact HN1.out, HB1.out⟩
    · have hl2 : 2 ≤ l.length := two_of HNE.out (by have := HX.out.2.1; omega)
      obtain ⟨n, pre, L, hk, hL⟩ := kd_of HES.out.et hl2
      subst hL
      have hln : lv = (n : Int) := by have := HX.out.2.1; rw [this, hk.lev]; omega
      subst hln
      have HK := Lib.hid hk
      have HAX := Lib.hid (fun (i a : Nat) (hi : i < (cat L).length) (ha : Zb.addr ((cat L)[i]).p n = a) (W : World) (hb : Below w.heap.size w W) => (show ∃ (Au : Option Addr) (cu : Nat), W.cell? ⟨b, o + i * 2, none⟩ = some (.slice Au k cu) ∧ Calls Tryz.prog 191 #[.slice Au k cu, .int .i64 (n : Nat)] W fun e w' => e = .returned (.tuple #[.int .i64 (a : Nat), .int .i64 0]) ∧ w' = W from by
        obtain ⟨u, q0, qu, q1⟩ := HX.out.1 i hi
        have hlen := HES.out.et.len _ (List.getElem_mem hi)
        have hz := zAddr_any ((cat L)[i]).p n u W (qu.below hb) (by omega) (by omega) (HES.out.et.ok _ (List.getElem_mem hi)) hk.n64
        obtain ⟨Au, cu, rfl, _⟩ := RdU.point qu
        rw [hlen] at q0 hz
        rw [ha] at hz
        exact ⟨Au, cu, Below.keeps hb _ _ q0, hz⟩))
      clear hl2 hk
      go_wp2_with fail
      go_loopw [9, 10, 11, 12, 14, 16] (fun ov fv iv _ _ _ wr => ∃ (i j : Nat) (r : Option Nat), ov = pv r ∧ fv = .int .i64 ((cat (L.take j)).length : Nat) ∧ iv = .int .i64 (i : Nat) ∧ 1 ≤ i ∧ i ≤ M + 2 ∧
          ((∃ hj : j < L.length, (cat (L.take j)).length < i ∧ i ≤ (cat (L.take j)).length + L[j].2.length) ∨ (j = L.length ∧ i = M + 2)) ∧ (r = none ↔ j = 0) ∧ (∀ g, r = some g → Nd wr k g (cat (L.take j))) ∧ Below w.heap.size w wr) (fun _ _ iv _ _ _ _ => M + 2 - (intOf iv).toNat)
      case atStart =>
        have h2 := HK.out.two
        refine ⟨1, 0, none, rfl, rfl, rfl, Nat.le_refl _, by omega, .inl ⟨by omega, by simp [cat], ?_⟩, by simp, (fun g h => by cases h), HB1.out⟩
        have := List.length_pos_iff.2 (HK.out.ne _ (List.getElem_mem (show 0 < L.length by omega)))
        simp [cat]; omega
      case round =>
        obtain ⟨i, j, r, rfl, rfl, rfl, hi1, hi2, hcase, hr, hnd, hb⟩ := hrel
        have HB := Lib.hid hb
        have HMC := HM.out
        rcases hcase with ⟨hj, hF1, hF2⟩ | ⟨rfl, rfl⟩
        · have hroom := cat_room L j hj
          obtain ⟨fr, hfr⟩ : ∃ fr, (cat (L.take j)).length = fr := ⟨_, rfl⟩
          have HFR := Lib.hid hfr
          have hkadr := HK.out.adr _ (List.getElem_mem hj)
          have HFA := Lib.hid (show ∀ h : fr < (cat L).length, Zb.addr ((cat L)[fr]'h).p n = L[j].1 from fun h => by
            have h0 : 0 < L[j].2.length := List.length_pos_iff.2 (HK.out.ne _ (List.getElem_mem hj))
            have e : (cat L)[fr]'h = L[j].2[0] := by have := cat_get L j 0 hj h0 (by omega); simpa [hfr] using this
            rw [e]; exact hkadr _ (List.getElem_mem h0))
          have HFL := Lib.hid (show fr < (cat L).length by omega)
          rw [hfr] at hF1 hF2 hroom ⊢
          have h3 : (i : Int) ≤ (M : Int) + 1 := by omega
          have h5 : (0 : Int) ≤ (fr : Int) := by omega
          have h6 : (fr : Int) ≤ (i : Int) := by omega
          have h7 : (i : Int) ≤ (c : Int) := by have := HD.out.2.2.1; omega
          have h8 : (0 : Int) ≤ (i : Int) := by omega
          have h9 : (fr : Int) < (M : Int) + 1 := by omega
          have HW := Lib.hid (show wrap64 ((i : Int) + 1) = ((i + 1 : Nat) : Int) by have := HES.out.short; unfold wrap64; omega)
          by_cases hgo : i < M + 1 ∧ i < fr + L[j].2.length
          · have hd4 : (i : Int) < (M : Int) + 1 := by omega
            have hia : Zb.addr ((cat L)[i]'(by omega)).p n = L[j].1 := by
              have e : (cat L)[i]'(by omega) = L[j].2[i - fr]'(by omega) := by
                have := cat_get L j (i - fr) hj (by omega) (by rw [hfr]; omega)
                rw [← this]
                congr 1
                omega
              rw [e]; exact hkadr _ (List.getElem_mem _)
            obtain ⟨Au, cu, q0, HA1⟩ := HAX.out i _ (by omega) hia wr hb
            obtain ⟨Au2, cu2, q1, HA2⟩ := HAX.out fr _ HFL.out (HFA.out HFL.out) wr hb
            have hbw := World.block_lt_of_cell? wr _ q0
            have HREL := Lib.hid (And.intro hr (And.intro hnd hgo))
            have HREL2 := Lib.hid (show (∃ hj : j < L.length, (cat (L.take j)).length < i + 1 ∧ i + 1 ≤ (cat (L.take j)).length + L[j].2.length) from ⟨hj, by rw [hfr]; omega, by rw [hfr]; omega⟩)
            obtain ⟨a1, ha1⟩ : ∃ a1, L[j].1 = a1 := ⟨_, rfl⟩
            rw [ha1] at HA1 HA2
            obtain ⟨q, hq⟩ := pv_ex r
            have HQ := Lib.hid hq
            rw [hq]
            clear hia ha1 hkadr hr hnd hb hgo hq hi2
            go_wp2_with fail
            refine HA1.mono ?_
            rintro e w7 ⟨rfl, hw7⟩
            obtain rfl := hw7.symm
            clear hw7
            go_wp2_with fail
            refine HA2.mono ?_
            rintro e w7 ⟨rfl, hw7⟩
            obtain rfl := hw7.symm
            clear hw7
            go_wp2_with fail
            go_roundw
            case rel => exact ⟨i + 1, j, r, HQ.out.symm, by rw [HFR.out], (by first | rw [HW.out] | rfl | simp), by omega, by omega, .inl HREL2.out, HREL.out.1, HREL.out.2.1, HB.out⟩
            case measure => (first | (rw [intOf_of' HW.out, intOf_of' rfl]; omega) | (simp [intOf]; omega) | (simp [intOf] <;> omega))
          · have hiF : i = fr + L[j].2.length := by omega
            have HJ := Lib.hid hj
            have HNJ := Lib.hid (show (i < M + 1 → j + 1 < L.length) ∧ ∀ (h : i < (cat L).length) (h1 : j + 1 < L.length), Zb.addr ((cat L)[i]'h).p n = L[j + 1].1 from by
              have hs := cat_take_succ L j hj
              have hlen : (cat (L.take (j + 1))).length = i := by rw [hs, List.length_append, hfr]; omega
              refine ⟨fun h => ?_, fun h h1 => ?_⟩
              · rcases Nat.lt_or_ge (j + 1) L.length with h2 | h2
                · exact h2
                · rw [List.take_of_length_le h2] at hlen; omega
              · have h0 : 0 < L[j + 1].2.length := List.length_pos_iff.2 (HK.out.ne _ (List.getElem_mem h1))
                have e := cat_get L (j + 1) 0 h1 h0 (by omega)
                have e2 : (cat L)[i]'h = L[j + 1].2[0] := by rw [← e]; congr 1; omega
                rw [e2]; exact HK.out.adr _ (List.getElem_mem h1) _ (List.getElem_mem h0))
            have HNX := Lib.hid (show ((∃ hj : j + 1 < L.length, (cat (L.take (j + 1))).length < i + 1 ∧ i + 1 ≤ (cat (L.take (j + 1))).length + L[j + 1].2.length) ∨ (j + 1 = L.length ∧ i + 1 = M + 2)) from by
              have hs := cat_take_succ L j hj
              have hlen : (cat (L.take (j + 1))).length = i := by rw [hs, List.length_append, hfr]; omega
              rcases Nat.lt_or_ge (j + 1) L.length with h2 | h2
              · refine .inl ⟨h2, by omega, ?_⟩
                have := List.length_pos_iff.2 (HK.out.ne _ (List.getElem_mem h2))
                omega
              · refine .inr ⟨by omega, ?_⟩
                rw [List.take_of_length_le h2] at hlen; omega)
            have FEQ0 : (cat (L.take (j + 1))).length = i := by
              have hs := cat_take_succ L j hj
              rw [hs, List.length_append, hfr]; omega
            have hsl := (HV.out.drop' fr (by omega))
            rw [← List.length_drop] at hsl
            have hcf : ¬ c = fr := by have := HD.out.2.2.1; omega
            rw [if_neg hcf] at hsl
            have hsl2 := RdE.take hsl (i - fr) (by rw [List.length_drop]; omega)
            have hpart := cat_part L j hj
            rw [hfr, show L[j].2.length = i - fr by omega] at hpart
            rw [hpart] at hsl2
            have hkl := HK.out.kid_lt (List.getElem_mem hj)
            have HIH := Lib.hid (fun W (hb2 : Below wr.heap.size wr W) => HIH0.out L[j].2 W _ (by rw [← HM.out] at *; exact hkl) (hsl2.below (hb.trans (hb2.mono hb.size))) ⟨HK.out.et _ (List.getElem_mem hj), HES.out.k40, by have := HES.out.short; omega⟩ (HK.out.ne _ (List.getElem_mem hj)) (fun e he => HVV.out e (mem_cat.2 ⟨_, List.getElem_mem hj, he⟩)))
            have HIF := Lib.hid (And.intro hiF (And.intro hF1 hF2))
            clear hsl hsl2 hpart hkl hkadr hgo hi2 hiF hF1 hF2 hroom
            cases r with
            | none =>
              obtain rfl : j = 0 := hr.1 rfl
              have HT1 := Lib.hid (show cat (L.take (0 + 1)) = L[0].2 from by rw [cat_take_succ L 0 hj]; rfl)
              have FEQH := Lib.hid (show Value.int .i64 (i : Nat) = .int .i64 ((cat (L.take 1)).length : Nat) from by rw [FEQ0])
              clear hr hnd hb hfr FEQ0
              simp only [pv_none]
              by_cases hend : i < M + 1
              · have hj1 : 0 + 1 < L.length := HNJ.out.1 hend
                have hil : i < (cat L).length := by rw [HM.out]; exact hend
                obtain ⟨Au, cu, q0, HA1⟩ := HAX.out i _ hil (HNJ.out.2 hil hj1) wr HB.out
                obtain ⟨Au2, cu2, q1, HA2⟩ := HAX.out fr _ HFL.out (HFA.out HFL.out) wr HB.out
                have hbw := World.block_lt_of_cell? wr _ q0
                have hneq : ((L[0 + 1].1 : Int) == (L[0]'(by omega)).1) = false := by
                  have := List.pairwise_iff_getElem.1 HK.out.asc 0 (0 + 1) (by omega) hj1 (by omega)
                  rw [beq_eq_false_iff_ne]
                  have h9 : (L[0]'(by omega)).1 < L[0 + 1].1 := this
                  omega
                obtain ⟨a1, ha1⟩ : ∃ a1, L[0 + 1].1 = a1 := ⟨_, rfl⟩
                obtain ⟨a2, ha2⟩ : ∃ a2, (L[0]'(by omega)).1 = a2 := ⟨_, rfl⟩
                rw [ha1] at HA1 hneq
                rw [ha2] at HA2 hneq
                clear ha1 ha2
                have hd4 : (i : Int) < (M : Int) + 1 := by omega
                go_wp2_with fail
                refine HA1.mono ?_
                rintro e w7 ⟨rfl, hw7⟩
                obtain rfl := hw7.symm
                clear hw7
                go_wp2_with fail
                refine HA2.mono ?_
                rintro e w7 ⟨rfl, hw7⟩
                obtain rfl := hw7.symm
                clear hw7
                go_wp2_with fail
                refine (HIH.out _ (Below.refl _ _)).mono ?_
                rintro e w6 ⟨g2, rfl, hn2, hb2⟩
                have HN2 := Lib.hid (And.intro hn2 (HB.out.trans (hb2.mono HB.out.size)))
                have HR1 := Lib.hid (show ∀ g, some g2 = some g → Nd w6 k g (cat (L.take 1)) from fun g hg => by injection hg with hg; subst hg; rw [HT1.out]; exact hn2)
                clear hn2 hb2
                go_wp2_with fail
                go_roundw
                case rel => exact ⟨i + 1, 1, some g2, rfl, FEQH.out, (by first | rw [HW.out] | rfl | simp), by omega, by omega, HNX.out, by simp, HR1.out, HN2.out.2⟩
                case measure => (first | (rw [intOf_of' HW.out, intOf_of' rfl]; omega) | (simp [intOf]; omega) | (simp [intOf] <;> omega))
              · have hd4 : ¬ (i : Int) < (M : Int) + 1 := by omega
                go_wp2_with fail
                refine (HIH.out _ (Below.refl _ _)).mono ?_
                rintro e w6 ⟨g2, rfl, hn2, hb2⟩
                have HN2 := Lib.hid (And.intro hn2 (HB.out.trans (hb2.mono HB.out.size)))
                have HR1 := Lib.hid (show ∀ g, some g2 = some g → Nd w6 k g (cat (L.take 1)) from fun g hg => by injection hg with hg; subst hg; rw [HT1.out]; exact hn2)
                clear hn2 hb2
                go_wp2_with fail
                go_roundw
                case rel => exact ⟨i + 1, 1, some g2, rfl, FEQH.out, (by first | rw [HW.out] | rfl | simp), by omega, by omega, HNX.out, by simp, HR1.out, HN2.out.2⟩
                case measure => (first | (rw [intOf_of' HW.out, intOf_of' rfl]; omega) | (simp [intOf]; omega) | (simp [intOf] <;> omega))
            | some gx =>
              have hgx := hnd gx rfl
              have HGX := Lib.hid (show Nd wr k gx (cat (L.take j)) from hgx)
              obtain ⟨vx, kpx, hhx⟩ := hgx.hd
              obtain ⟨lvx, hlvx⟩ : ∃ lvx : Int, lvx = (lev (cat (L.take j)) : Int) - 1 := ⟨_, rfl⟩
              have HL0 := Lib.hid (show wr.cell? ⟨gx, 0, none⟩ = some (.int .i64 lvx) from hlvx ▸ hhx.c0)
              have FEQH := Lib.hid (show Value.int .i64 (i : Nat) = .int .i64 ((cat (L.take (j + 1))).length : Nat) from by rw [FEQ0])
              have hj0 : j ≠ 0 := fun h => by have := hr.2 h; cases this
              simp only [pv_some]
              by_cases hj1 : j = 1
              · subst hj1
                have hlx : lvx < (n : Int) := by
                  rw [hlvx, cat_take_succ L 0 (by omega)]
                  have := HK.out.kid_lev (List.getElem_mem (show 0 < L.length by omega))
                  simp only [List.take_zero, cat, List.flatMap_nil, List.nil_append]
                  omega
                have HPR := Lib.hid (fun (W : World) (gk : Nat) (hx : Nd W k gx (cat (L.take 1))) (hk2 : Nd W k gk L[1].2) => bld_pair W k n gx gk pre L HK.out k1 k16 HK.out.two (by have e := cat_take_succ L 0 (by omega); rw [show cat (L.take 0) = [] from rfl, List.nil_append] at e; rw [← e]; exact hx) hk2)
                clear hr hnd hb hgx hhx hlvx hj0 hfr FEQ0
                by_cases hend : i < M + 1
                · have hj1 : 1 + 1 < L.length := HNJ.out.1 hend
                  have hil : i < (cat L).length := by rw [HM.out]; exact hend
                  obtain ⟨Au, cu, q0, HA1⟩ := HAX.out i _ hil (HNJ.out.2 hil hj1) wr HB.out
                  obtain ⟨Au2, cu2, q1, HA2⟩ := HAX.out fr _ HFL.out (HFA.out HFL.out) wr HB.out
                  have hbw := World.block_lt_of_cell? wr _ q0
                  have hneq : ((L[1 + 1].1 : Int) == (L[1]'(by omega)).1) = false := by
                    have := List.pairwise_iff_getElem.1 HK.out.asc 1 (1 + 1) (by omega) hj1 (by omega)
                    rw [beq_eq_false_iff_ne]
                    have h9 : (L[1]'(by omega)).1 < L[1 + 1].1 := this
                    omega
                  obtain ⟨a1, ha1⟩ : ∃ a1, L[1 + 1].1 = a1 := ⟨_, rfl⟩
                  obtain ⟨a2, ha2⟩ : ∃ a2, (L[1]'(by omega)).1 = a2 := ⟨_, rfl⟩
                  rw [ha1] at HA1 hneq
                  rw [ha2] at HA2 hneq
                  clear ha1 ha2
                  have hd4 : (i : Int) < (M : Int) + 1 := by omega
                  go_wp2_with fail
                  refine HA1.mono ?_
                  rintro e w7 ⟨rfl, hw7⟩
                  obtain rfl := hw7.symm
                  clear hw7
                  go_wp2_with fail
                  refine HA2.mono ?_
                  rintro e w7 ⟨rfl, hw7⟩
                  obtain rfl := hw7.symm
                  clear hw7
                  go_wp2_with fail
                  refine (HIH.out _ (Below.refl _ _)).mono ?_
                  rintro e w6 ⟨g2, rfl, hn2, hb2⟩
                  have HN2 := Lib.hid (And.intro hn2 (HB.out.trans (hb2.mono HB.out.size)))
                  have HG6 := Lib.hid (HGX.out.bel hb2)
                  have HLV := Lib.hid (show w6.cell? ⟨gx, 0, none⟩ = some (.int .i64 lvx) from Below.keeps hb2 _ _ HL0.out)
                  clear hn2 hb2
                  go_wp2_with fail
                  refine (nlev_any _ gx _ HLV.out).mono ?_
                  rintro e w7 ⟨rfl, hw7⟩
                  obtain rfl := hw7.symm
                  clear hw7
                  go_wp2_with fail
                  refine (HPR.out _ _ HG6.out HN2.out.1).mono ?_
                  rintro e w8 ⟨g3, rfl, hn3, hb3⟩
                  have HN3 := Lib.hid (And.intro hn3 (HN2.out.2.trans (hb3.mono HN2.out.2.size)))
                  clear hn3 hb3
                  go_wp2_with fail
                  go_roundw
                  case rel => exact ⟨i + 1, 2, some g3, rfl, FEQH.out, (by first | rw [HW.out] | rfl | simp), by omega, by omega, HNX.out, by simp, (fun g hg => by injection hg with hg; subst hg; exact HN3.out.1), HN3.out.2⟩
                  case measure => (first | (rw [intOf_of' HW.out, intOf_of' rfl]; omega) | (simp [intOf]; omega) | (simp [intOf] <;> omega))
                · have hd4 : ¬ (i : Int) < (M : Int) + 1 := by omega
                  go_wp2_with fail
                  refine (HIH.out _ (Below.refl _ _)).mono ?_
                  rintro e w6 ⟨g2, rfl, hn2, hb2⟩
                  have HN2 := Lib.hid (And.intro hn2 (HB.out.trans (hb2.mono HB.out.size)))
                  have HG6 := Lib.hid (HGX.out.bel hb2)
                  have HLV := Lib.hid (show w6.cell? ⟨gx, 0, none⟩ = some (.int .i64 lvx) from Below.keeps hb2 _ _ HL0.out)
                  clear hn2 hb2
                  go_wp2_with fail
                  refine (nlev_any _ gx _ HLV.out).mono ?_
                  rintro e w7 ⟨rfl, hw7⟩
                  obtain rfl := hw7.symm
                  clear hw7
                  go_wp2_with fail
                  refine (HPR.out _ _ HG6.out HN2.out.1).mono ?_
                  rintro e w8 ⟨g3, rfl, hn3, hb3⟩
                  have HN3 := Lib.hid (And.intro hn3 (HN2.out.2.trans (hb3.mono HN2.out.2.size)))
                  clear hn3 hb3
                  go_wp2_with fail
                  go_roundw
                  case rel => exact ⟨i + 1, 2, some g3, rfl, FEQH.out, (by first | rw [HW.out] | rfl | simp), by omega, by omega, HNX.out, by simp, (fun g hg => by injection hg with hg; subst hg; exact HN3.out.1), HN3.out.2⟩
                  case measure => (first | (rw [intOf_of' HW.out, intOf_of' rfl]; omega) | (simp [intOf]; omega) | (simp [intOf] <;> omega))
              · have hlx : ¬ lvx < (n : Int) := by
                  rw [hlvx, (HK.out.take (show 2 ≤ j by omega) (Nat.le_of_lt hj)).lev]
                  omega
                have HWI := Lib.hid (fun (W : World) (gk : Nat) (hx : Nd W k gx (cat (L.take j))) (hk2 : Nd W k gk L[j].2) => bld_with W k n gx gk j pre L HK.out (by omega) hj hx hk2)
                clear hr hnd hb hgx hhx hlvx hj0 hj1 hfr FEQ0
                by_cases hend : i < M + 1
                · have hj1 : j + 1 < L.length := HNJ.out.1 hend
                  have hil : i < (cat L).length := by rw [HM.out]; exact hend
                  obtain ⟨Au, cu, q0, HA1⟩ := HAX.out i _ hil (HNJ.out.2 hil hj1) wr HB.out
                  obtain ⟨Au2, cu2, q1, HA2⟩ := HAX.out fr _ HFL.out (HFA.out HFL.out) wr HB.out
                  have hbw := World.block_lt_of_cell? wr _ q0
                  have hneq : ((L[j + 1].1 : Int) == (L[j]'(by omega)).1) = false := by
                    have := List.pairwise_iff_getElem.1 HK.out.asc j (j + 1) (by omega) hj1 (by omega)
                    rw [beq_eq_false_iff_ne]
                    have h9 : (L[j]'(by omega)).1 < L[j + 1].1 := this
                    omega
                  obtain ⟨a1, ha1⟩ : ∃ a1, L[j + 1].1 = a1 := ⟨_, rfl⟩
                  obtain ⟨a2, ha2⟩ : ∃ a2, (L[j]'(by omega)).1 = a2 := ⟨_, rfl⟩
                  rw [ha1] at HA1 hneq
                  rw [ha2] at HA2 hneq
                  clear ha1 ha2
                  have hd4 : (i : Int) < (M : Int) + 1 := by omega
                  go_wp2_with fail
                  refine HA1.mono ?_
                  rintro e w7 ⟨rfl, hw7⟩
                  obtain rfl := hw7.symm
                  clear hw7
                  go_wp2_with fail
                  refine HA2.mono ?_
                  rintro e w7 ⟨rfl, hw7⟩
                  obtain rfl := hw7.symm
                  clear hw7
                  go_wp2_with fail
                  refine (HIH.out _ (Below.refl _ _)).mono ?_
                  rintro e w6 ⟨g2, rfl, hn2, hb2⟩
                  have HN2 := Lib.hid (And.intro hn2 (HB.out.trans (hb2.mono HB.out.size)))
                  have HG6 := Lib.hid (HGX.out.bel hb2)
                  have HLV := Lib.hid (show w6.cell? ⟨gx, 0, none⟩ = some (.int .i64 lvx) from Below.keeps hb2 _ _ HL0.out)
                  clear hn2 hb2
                  go_wp2_with fail
                  refine (nlev_any _ gx _ HLV.out).mono ?_
                  rintro e w7 ⟨rfl, hw7⟩
                  obtain rfl := hw7.symm
                  clear hw7
                  go_wp2_with fail
                  refine (HWI.out _ _ HG6.out HN2.out.1).mono ?_
                  rintro e w8 ⟨g3, rfl, hn3, hb3⟩
                  have HN3 := Lib.hid (And.intro hn3 (HN2.out.2.trans (hb3.mono HN2.out.2.size)))
                  clear hn3 hb3
                  go_wp2_with fail
                  go_roundw
                  case rel => exact ⟨i + 1, j + 1, some g3, rfl, FEQH.out, (by first | rw [HW.out] | rfl | simp), by omega, by omega, HNX.out, by simp, (fun g hg => by injection hg with hg; subst hg; exact HN3.out.1), HN3.out.2⟩
                  case measure => (first | (rw [intOf_of' HW.out, intOf_of' rfl]; omega) | (simp [intOf]; omega) | (simp [intOf] <;> omega))
                · have hd4 : ¬ (i : Int) < (M : Int) + 1 := by omega
                  go_wp2_with fail
                  refine (HIH.out _ (Below.refl _ _)).mono ?_
                  rintro e w6 ⟨g2, rfl, hn2, hb2⟩
                  have HN2 := Lib.hid (And.intro hn2 (HB.out.trans (hb2.mono HB.out.size)))
                  have HG6 := Lib.hid (HGX.out.bel hb2)
                  have HLV := Lib.hid (show w6.cell? ⟨gx, 0, none⟩ = some (.int .i64 lvx) from Below.keeps hb2 _ _ HL0.out)
                  clear hn2 hb2
                  go_wp2_with fail
                  refine (nlev_any _ gx _ HLV.out).mono ?_
                  rintro e w7 ⟨rfl, hw7⟩
                  obtain rfl := hw7.symm
                  clear hw7
                  go_wp2_with fail
                  refine (HWI.out _ _ HG6.out HN2.out.1).mono ?_
                  rintro e w8 ⟨g3, rfl, hn3, hb3⟩
                  have HN3 := Lib.hid (And.intro hn3 (HN2.out.2.trans (hb3.mono HN2.out.2.size)))
                  clear hn3 hb3
                  go_wp2_with fail
                  go_roundw
                  case rel => exact ⟨i + 1, j + 1, some g3, rfl, FEQH.out, (by first | rw [HW.out] | rfl | simp), by omega, by omega, HNX.out, by simp, (fun g hg => by injection hg with hg; subst hg; exact HN3.out.1), HN3.out.2⟩
                  case measure => (first | (rw [intOf_of' HW.out, intOf_of' rfl]; omega) | (simp [intOf]; omega) | (simp [intOf] <;> omega))
        · have h3 : ¬ ((M + 2 : Nat) : Int) ≤ (M : Int) + 1 := by omega
          have h2 := HK.out.two
          cases r with
          | none => exact absurd (hr.1 rfl) (by omega)
          | some gx =>
            have HG := Lib.hid (hnd gx rfl)
            simp only [pv_some]
            clear hr hnd hb
            go_wp2_with fail
            go_ret
            exact ⟨gx, rfl, by have := HG.out; rw [List.take_length] at this; exact this, HB.out⟩
  · go_wp2_with fail
    refine (HLF.out _ (by repeat (first | exact Below.refl _ _ | (refine Below.drew ?_) | (refine below_drewN' ?_ _) | (refine below_alloc' ?_ _) | (refine Below.setCell ?_ (by first | exact Nat.le_refl _ | (simp; done) | (simp; omega)) _)))).mono ?_
    rintro e w1 ⟨g1, rfl, hn1, hb1⟩
    have f0 : w1.cell? ⟨w.heap.size + 1, 0, none⟩ = some (.slice A0 k cx) := Below.keeps hb1 _ _ (by simp [go_sem])
    have l0 : w1.cell? ⟨w.heap.size, 0, none⟩ = some (.slice A1 k cy) := Below.keeps hb1 _ _ (by simp [go_sem])
    have hfl := World.block_lt_of_cell? w1 _ f0
    have hll := World.block_lt_of_cell? w1 _ l0
    have HB1 := Lib.hid (show Below w.heap.size w w1 from below_trans (by repeat (first | exact Below.refl _ _ | (refine Below.drew ?_) | (refine below_drewN' ?_ _) | (refine below_alloc' ?_ _) | (refine Below.setCell ?_ (by first | exact Nat.le_refl _ | (simp; done) | (simp; omega)) _))) hb1)
    have HN1 := Lib.hid hn1
    clear hb1 hn1
    go_wp2_with fail
    refine (HPT.out _ HB1.out).mono ?_
    rintro e w2 ⟨rfl, hw9⟩
    obtain rfl := hw9.symm
    clear hw9 f0 l0 hfl hll
    by_cases hlv0 : lv < 0
    · have HE1 := Lib.hid (show l = [⟨p0, x0⟩] from single_of HES.out.et HNE.out (by have := HX.out.2.1; omega) HX.out.2.2)
      go_wp2_with fail
      go_ret
      exact ⟨g1, rfl, by rw [HE1.out]; exact HN1.out, HB1.out⟩
    · have hl2 : 2 ≤ l.length := two_of HNE.out (by have := HX.out.2.1; omega)
      obtain ⟨n, pre, L, hk, hL⟩ := kd_of HES.out.et hl2
      subst hL
      have hln : lv = (n : Int) := by have := HX.out.2.1; rw [this, hk.lev]; omega
      subst hln
      have HK := Lib.hid hk
      have HAX := Lib.hid (fun (i a : Nat) (hi : i < (cat L).length) (ha : Zb.addr ((cat L)[i]).p n = a) (W : World) (hb : Below w.heap.size w W) => (show ∃ (Au : Option Addr) (cu : Nat), W.cell? ⟨b, o + i * 2, none⟩ = some (.slice Au k cu) ∧ Calls Tryz.prog 191 #[.slice Au k cu, .int .i64 (n : Nat)] W fun e w' => e = .returned (.tuple #[.int .i64 (a : Nat), .int .i64 0]) ∧ w' = W from by
        obtain ⟨u, q0, qu, q1⟩ := HX.out.1 i hi
        have hlen := HES.out.et.len _ (List.getElem_mem hi)
        have hz := zAddr_any ((cat L)[i]).p n u W (qu.below hb) (by omega) (by omega) (HES.out.et.ok _ (List.getElem_mem hi)) hk.n64
        obtain ⟨Au, cu, rfl, _⟩ := RdU.point qu
        rw [hlen] at q0 hz
        rw [ha] at hz
        exact ⟨Au, cu, Below.keeps hb _ _ q0, hz⟩))
      clear hl2 hk
      go_wp2_with fail
      go_loopw [9, 10, 11, 12, 14, 16] (fun ov fv iv _ _ _ wr => ∃ (i j : Nat) (r : Option Nat), ov = pv r ∧ fv = .int .i64 ((cat (L.take j)).length : Nat) ∧ iv = .int .i64 (i : Nat) ∧ 1 ≤ i ∧ i ≤ M + 2 ∧
          ((∃ hj : j < L.length, (cat (L.take j)).length < i ∧ i ≤ (cat (L.take j)).length + L[j].2.length) ∨ (j = L.length ∧ i = M + 2)) ∧ (r = none ↔ j = 0) ∧ (∀ g, r = some g → Nd wr k g (cat (L.take j))) ∧ Below w.heap.size w wr) (fun _ _ iv _ _ _ _ => M + 2 - (intOf iv).toNat)
      case atStart =>
        have h2 := HK.out.two
        refine ⟨1, 0, none, rfl, rfl, rfl, Nat.le_refl _, by omega, .inl ⟨by omega, by simp [cat], ?_⟩, by simp, (fun g h => by cases h), HB1.out⟩
        have := List.length_pos_iff.2 (HK.out.ne _ (List.getElem_mem (show 0 < L.length by omega)))
        simp [cat]; omega
      case round =>
        obtain ⟨i, j, r, rfl, rfl, rfl, hi1, hi2, hcase, hr, hnd, hb⟩ := hrel
        have HB := Lib.hid hb
        have HMC := HM.out
        rcases hcase with ⟨hj, hF1, hF2⟩ | ⟨rfl, rfl⟩
        · have hroom := cat_room L j hj
          obtain ⟨fr, hfr⟩ : ∃ fr, (cat (L.take j)).length = fr := ⟨_, rfl⟩
          have HFR := Lib.hid hfr
          have hkadr := HK.out.adr _ (List.getElem_mem hj)
          have HFA := Lib.hid (show ∀ h : fr < (cat L).length, Zb.addr ((cat L)[fr]'h).p n = L[j].1 from fun h => by
            have h0 : 0 < L[j].2.length := List.length_pos_iff.2 (HK.out.ne _ (List.getElem_mem hj))
            have e : (cat L)[fr]'h = L[j].2[0] := by have := cat_get L j 0 hj h0 (by omega); simpa [hfr] using this
            rw [e]; exact hkadr _ (List.getElem_mem h0))
          have HFL := Lib.hid (show fr < (cat L).length by omega)
          rw [hfr] at hF1 hF2 hroom ⊢
          have h3 : (i : Int) ≤ (M : Int) + 1 := by omega
          have h5 : (0 : Int) ≤ (fr : Int) := by omega
          have h6 : (fr : Int) ≤ (i : Int) := by omega
          have h7 : (i : Int) ≤ (c : Int) := by have := HD.out.2.2.1; omega
          have h8 : (0 : Int) ≤ (i : Int) := by omega
          have h9 : (fr : Int) < (M : Int) + 1 := by omega
          have HW := Lib.hid (show wrap64 ((i : Int) + 1) = ((i + 1 : Nat) : Int) by have := HES.out.short; unfold wrap64; omega)
          by_cases hgo : i < M + 1 ∧ i < fr + L[j].2.length
          · have hd4 : (i : Int) < (M : Int) + 1 := by omega
            have hia : Zb.addr ((cat L)[i]'(by omega)).p n = L[j].1 := by
              have e : (cat L)[i]'(by omega) = L[j].2[i - fr]'(by omega) := by
                have := cat_get L j (i - fr) hj (by omega) (by rw [hfr]; omega)
                rw [← this]
                congr 1
                omega
              rw [e]; exact hkadr _ (List.getElem_mem _)
            obtain ⟨Au, cu, q0, HA1⟩ := HAX.out i _ (by omega) hia wr hb
            obtain ⟨Au2, cu2, q1, HA2⟩ := HAX.out fr _ HFL.out (HFA.out HFL.out) wr hb
            have hbw := World.block_lt_of_cell? wr _ q0
            have HREL := Lib.hid (And.intro hr (And.intro hnd hgo))
            have HREL2 := Lib.hid (show (∃ hj : j < L.length, (cat (L.take j)).length < i + 1 ∧ i + 1 ≤ (cat (L.take j)).length + L[j].2.length) from ⟨hj, by rw [hfr]; omega, by rw [hfr]; omega⟩)
            obtain ⟨a1, ha1⟩ : ∃ a1, L[j].1 = a1 := ⟨_, rfl⟩
            rw [ha1] at HA1 HA2
            obtain ⟨q, hq⟩ := pv_ex r
            have HQ := Lib.hid hq
            rw [hq]
            clear hia ha1 hkadr hr hnd hb hgo hq hi2
            go_wp2_with fail
            refine HA1.mono ?_
            rintro e w7 ⟨rfl, hw7⟩
            obtain rfl := hw7.symm
            clear hw7
            go_wp2_with fail
            refine HA2.mono ?_
            rintro e w7 ⟨rfl, hw7⟩
            obtain rfl := hw7.symm
            clear hw7
            go_wp2_with fail
            go_roundw
            case rel => exact ⟨i + 1, j, r, HQ.out.symm, by rw [HFR.out], (by first | rw [HW.out] | rfl | simp), by omega, by omega, .inl HREL2.out, HREL.out.1, HREL.out.2.1, HB.out⟩
            case measure => (first | (rw [intOf_of' HW.out, intOf_of' rfl]; omega) | (simp [intOf]; omega) | (simp [intOf] <;> omega))
          · have hiF : i = fr + L[j].2.length := by omega
            have HJ := Lib.hid hj
            have HNJ := Lib.hid (show (i < M + 1 → j + 1 < L.length) ∧ ∀ (h : i < (cat L).length) (h1 : j + 1 < L.length), Zb.addr ((cat L)[i]'h).p n = L[j + 1].1 from by
              have hs := cat_take_succ L j hj
              have hlen : (cat (L.take (j + 1))).length = i := by rw [hs, List.length_append, hfr]; omega
              refine ⟨fun h => ?_, fun h h1 => ?_⟩
              · rcases Nat.lt_or_ge (j + 1) L.length with h2 | h2
                · exact h2
                · rw [List.take_of_length_le h2] at hlen; omega
              · have h0 : 0 < L[j + 1].2.length := List.length_pos_iff.2 (HK.out.ne _ (List.getElem_mem h1))
                have e := cat_get L (j + 1) 0 h1 h0 (by omega)
                have e2 : (cat L)[i]'h = L[j + 1].2[0] := by rw [← e]; congr 1; omega
                rw [e2]; exact HK.out.adr _ (List.getElem_mem h1) _ (List.getElem_mem h0))
            have HNX := Lib.hid (show ((∃ hj : j + 1 < L.length, (cat (L.take (j + 1))).length < i + 1 ∧ i + 1 ≤ (cat (L.take (j + 1))).length + L[j + 1].2.length) ∨ (j + 1 = L.length ∧ i + 1 = M + 2)) from by
              have hs := cat_take_succ L j hj
              have hlen : (cat (L.take (j + 1))).length = i := by rw [hs, List.length_append, hfr]; omega
              rcases Nat.lt_or_ge (j + 1) L.length with h2 | h2
              · refine .inl ⟨h2, by omega, ?_⟩
                have := List.length_pos_iff.2 (HK.out.ne _ (List.getElem_mem h2))
                omega
              · refine .inr ⟨by omega, ?_⟩
                rw [List.take_of_length_le h2] at hlen; omega)
            have FEQ0 : (cat (L.take (j + 1))).length = i := by
              have hs := cat_take_succ L j hj
              rw [hs, List.length_append, hfr]; omega
            have hsl := (HV.out.drop' fr (by omega))
            rw [← List.length_drop] at hsl
            have hcf : ¬ c = fr := by have := HD.out.2.2.1; omega
            rw [if_neg hcf] at hsl
            have hsl2 := RdE.take hsl (i - fr) (by rw [List.length_drop]; omega)
            have hpart := cat_part L j hj
            rw [hfr, show L[j].2.length = i - fr by omega] at hpart
            rw [hpart] at hsl2
            have hkl := HK.out.kid_lt (List.getElem_mem hj)
            have HIH := Lib.hid (fun W (hb2 : Below wr.heap.size wr W) => HIH0.out L[j].2 W _ (by rw [← HM.out] at *; exact hkl) (hsl2.below (hb.trans (hb2.mono hb.size))) ⟨HK.out.et _ (List.getElem_mem hj), HES.out.k40, by have := HES.out.short; omega⟩ (HK.out.ne _ (List.getElem_mem hj)) (fun e he => HVV.out e (mem_cat.2 ⟨_, List.getElem_mem hj, he⟩)))
            have HIF := Lib.hid (And.intro hiF (And.intro hF1 hF2))
            clear hsl hsl2 hpart hkl hkadr hgo hi2 hiF hF1 hF2 hroom
            cases r with
            | none =>
              obtain rfl : j = 0 := hr.1 rfl
              have HT1 := Lib.hid (show cat (L.take (0 + 1)) = L[0].2 from by rw [cat_take_succ L 0 hj]; rfl)
              have FEQH := Lib.hid (show Value.int .i64 (i : Nat) = .int .i64 ((cat (L.take 1)).length : Nat) from by rw [FEQ0])
              clear hr hnd hb hfr FEQ0
              simp only [pv_none]
              by_cases hend : i < M + 1
              · have hj1 : 0 + 1 < L.length := HNJ.out.1 hend
                have hil : i < (cat L).length := by rw [HM.out]; exact hend
                obtain ⟨Au, cu, q0, HA1⟩ := HAX.out i _ hil (HNJ.out.2 hil hj1) wr HB.out
                obtain ⟨Au2, cu2, q1, HA2⟩ := HAX.out fr _ HFL.out (HFA.out HFL.out) wr HB.out
                have hbw := World.block_lt_of_cell? wr _ q0
                have hneq : ((L[0 + 1].1 : Int) == (L[0]'(by omega)).1) = false := by
                  have := List.pairwise_iff_getElem.1 HK.out.asc 0 (0 + 1) (by omega) hj1 (by omega)
                  rw [beq_eq_false_iff_ne]
                  have h9 : (L[0]'(by omega)).1 < L[0 + 1].1 := this
                  omega
                obtain ⟨a1, ha1⟩ : ∃ a1, L[0 + 1].1 = a1 := ⟨_, rfl⟩
                obtain ⟨a2, ha2⟩ : ∃ a2, (L[0]'(by omega)).1 = a2 := ⟨_, rfl⟩
                rw [ha1] at HA1 hneq
                rw [ha2] at HA2 hneq
                clear ha1 ha2
                have hd4 : (i : Int) < (M : Int) + 1 := by omega
                go_wp2_with fail
                refine HA1.mono ?_
                rintro e w7 ⟨rfl, hw7⟩
                obtain rfl := hw7.symm
                clear hw7
                go_wp2_with fail
                refine HA2.mono ?_
                rintro e w7 ⟨rfl, hw7⟩
                obtain rfl := hw7.symm
                clear hw7
                go_wp2_with fail
                refine (HIH.out _ (Below.refl _ _)).mono ?_
                rintro e w6 ⟨g2, rfl, hn2, hb2⟩
                have HN2 := Lib.hid (And.intro hn2 (HB.out.trans (hb2.mono HB.out.size)))
                have HR1 := Lib.hid (show ∀ g, some g2 = some g → Nd w6 k g (cat (L.take 1)) from fun g hg => by injection hg with hg; subst hg; rw [HT1.out]; exact hn2)
                clear hn2 hb2
                go_wp2_with fail
                go_roundw
                case rel => exact ⟨i + 1, 1, some g2, rfl, FEQH.out, (by first | rw [HW.out] | rfl | simp), by omega, by omega, HNX.out, by simp, HR1.out, HN2.out.2⟩
                case measure => (first | (rw [intOf_of' HW.out, intOf_of' rfl]; omega) | (simp [intOf]; omega) | (simp [intOf] <;> omega))
              · have hd4 : ¬ (i : Int) < (M : Int) + 1 := by omega
                go_wp2_with fail
                refine (HIH.out _ (Below.refl _ _)).mono ?_
                rintro e w6 ⟨g2, rfl, hn2, hb2⟩
                have HN2 := Lib.hid (And.intro hn2 (HB.out.trans (hb2.mono HB.out.size)))
                have HR1 := Lib.hid (show ∀ g, some g2 = some g → Nd w6 k g (cat (L.take 1)) from fun g hg => by injection hg with hg; subst hg; rw [HT1.out]; exact hn2)
                clear hn2 hb2
                go_wp2_with fail
                go_roundw
                case rel => exact ⟨i + 1, 1, some g2, rfl, FEQH.out, (by first | rw [HW.out] | rfl | simp), by omega, by omega, HNX.out, by simp, HR1.out, HN2.out.2⟩
                case measure => (first | (rw [intOf_of' HW.out, intOf_of' rfl]; omega) | (simp [intOf]; omega) | (simp [intOf] <;> omega))
            | some gx =>
              have hgx := hnd gx rfl
              have HGX := Lib.hid (show Nd wr k gx (cat (L.take j)) from hgx)
              obtain ⟨vx, kpx, hhx⟩ := hgx.hd
              obtain ⟨lvx, hlvx⟩ : ∃ lvx : Int, lvx = (lev (cat (L.take j)) : Int) - 1 := ⟨_, rfl⟩
              have HL0 := Lib.hid (show wr.cell? ⟨gx, 0, none⟩ = some (.int .i64 lvx) from hlvx ▸ hhx.c0)
              have FEQH := Lib.hid (show Value.int .i64 (i : Nat) = .int .i64 ((cat (L.take (j + 1))).length : Nat) from by rw [FEQ0])
              have hj0 : j ≠ 0 := fun h => by have := hr.2 h; cases this
              simp only [pv_some]
              by_cases hj1 : j = 1
              · subst hj1
                have hlx : lvx < (n : Int) := by
                  rw [hlvx, cat_take_succ L 0 (by omega)]
                  have := HK.out.kid_lev (List.getElem_mem (show 0 < L.length by omega))
                  simp only [List.take_zero, cat, List.flatMap_nil, List.nil_append]
                  omega
                have HPR := Lib.hid (fun (W : World) (gk : Nat) (hx : Nd W k gx (cat (L.take 1))) (hk2 : Nd W k gk L[1].2) => bld_pair W k n gx gk pre L HK.out k1 k16 HK.out.two (by have e := cat_take_succ L 0 (by omega); rw [show cat (L.take 0) = [] from rfl, List.nil_append] at e; rw [← e]; exact hx) hk2)
                clear hr hnd hb hgx hhx hlvx hj0 hfr FEQ0
                by_cases hend : i < M + 1
                · have hj1 : 1 + 1 < L.length := HNJ.out.1 hend
                  have hil : i < (cat L).length := by rw [HM.out]; exact hend
                  obtain ⟨Au, cu, q0, HA1⟩ := HAX.out i _ hil (HNJ.out.2 hil hj1) wr HB.out
                  obtain ⟨Au2, cu2, q1, HA2⟩ := HAX.out fr _ HFL.out (HFA.out HFL.out) wr HB.out
                  have hbw := World.block_lt_of_cell? wr _ q0
                  have hneq : ((L[1 + 1].1 : Int) == (L[1]'(by omega)).1) = false := by
                    have := List.pairwise_iff_getElem.1 HK.out.asc 1 (1 + 1) (by omega) hj1 (by omega)
                    rw [beq_eq_false_iff_ne]
                    have h9 : (L[1]'(by omega)).1 < L[1 + 1].1 := this
                    omega
                  obtain ⟨a1, ha1⟩ : ∃ a1, L[1 + 1].1 = a1 := ⟨_, rfl⟩
                  obtain ⟨a2, ha2⟩ : ∃ a2, (L[1]'(by omega)).1 = a2 := ⟨_, rfl⟩
                  rw [ha1] at HA1 hneq
                  rw [ha2] at HA2 hneq
                  clear ha1 ha2
                  have hd4 : (i : Int) < (M : Int) + 1 := by omega
                  go_wp2_with fail
                  refine HA1.mono ?_
                  rintro e w7 ⟨rfl, hw7⟩
                  obtain rfl := hw7.symm
                  clear hw7
                  go_wp2_with fail
                  refine HA2.mono ?_
                  rintro e w7 ⟨rfl, hw7⟩
                  obtain rfl := hw7.symm
                  clear hw7
                  go_wp2_with fail
                  refine (HIH.out _ (Below.refl _ _)).mono ?_
                  rintro e w6 ⟨g2, rfl, hn2, hb2⟩
                  have HN2 := Lib.hid (And.intro hn2 (HB.out.trans (hb2.mono HB.out.size)))
                  have HG6 := Lib.hid (HGX.out.bel hb2)
                  have HLV := Lib.hid (show w6.cell? ⟨gx, 0, none⟩ = some (.int .i64 lvx) from Below.keeps hb2 _ _ HL0.out)
                  clear hn2 hb2
                  go_wp2_with fail
                  refine (nlev_any _ gx _ HLV.out).mono ?_
                  rintro e w7 ⟨rfl, hw7⟩
                  obtain rfl := hw7.symm
                  clear hw7
                  go_wp2_with fail
                  refine (HPR.out _ _ HG6.out HN2.out.1).mono ?_
                  rintro e w8 ⟨g3, rfl, hn3, hb3⟩
                  have HN3 := Lib.hid (And.intro hn3 (HN2.out.2.trans (hb3.mono HN2.out.2.size)))
                  clear hn3 hb3
                  go_wp2_with fail
                  go_roundw
                  case rel => exact ⟨i + 1, 2, some g3, rfl, FEQH.out, (by first | rw [HW.out] | rfl | simp), by omega, by omega, HNX.out, by simp, (fun g hg => by injection hg with hg; subst hg; exact HN3.out.1), HN3.out.2⟩
                  case measure => (first | (rw [intOf_of' HW.out, intOf_of' rfl]; omega) | (simp [intOf]; omega) | (simp [intOf] <;> omega))
                · have hd4 : ¬ (i : Int) < (M : Int) + 1 := by omega
                  go_wp2_with fail
                  refine (HIH.out _ (Below.refl _ _)).mono ?_
                  rintro e w6 ⟨g2, rfl, hn2, hb2⟩
                  have HN2 := Lib.hid (And.intro hn2 (HB.out.trans (hb2.mono HB.out.size)))
                  have HG6 := Lib.hid (HGX.out.bel hb2)
                  have HLV := Lib.hid (show w6.cell? ⟨gx, 0, none⟩ = some (.int .i64 lvx) from Below.keeps hb2 _ _ HL0.out)
                  clear hn2 hb2
                  go_wp2_with fail
                  refine (nlev_any _ gx _ HLV.out).mono ?_
                  rintro e w7 ⟨rfl, hw7⟩
                  obtain rfl := hw7.symm
                  clear hw7
                  go_wp2_with fail
                  refine (HPR.out _ _ HG6.out HN2.out.1).mono ?_
                  rintro e w8 ⟨g3, rfl, hn3, hb3⟩
                  have HN3 := Lib.hid (And.intro hn3 (HN2.out.2.trans (hb3.mono HN2.out.2.size)))
                  clear hn3 hb3
                  go_wp2_with fail
                  go_roundw
                  case rel => exact ⟨i + 1, 2, some g3, rfl, FEQH.out, (by first | rw [HW.out] | rfl | simp), by omega, by omega, HNX.out, by simp, (fun g hg => by injection hg with hg; subst hg; exact HN3.out.1), HN3.out.2⟩
                  case measure => (first | (rw [intOf_of' HW.out, intOf_of' rfl]; omega) | (simp [intOf]; omega) | (simp [intOf] <;> omega))
              · have hlx : ¬ lvx < (n : Int) := by
                  rw [hlvx, (HK.out.take (show 2 ≤ j by omega) (Nat.le_of_lt hj)).lev]
                  omega
                have HWI := Lib.hid (fun (W : World) (gk : Nat) (hx : Nd W k gx (cat (L.take j))) (hk2 : Nd W k gk L[j].2) => bld_with W k n gx gk j pre L HK.out (by omega) hj hx hk2)
                clear hr hnd hb hgx hhx hlvx hj0 hj1 hfr FEQ0
                by_cases hend : i < M + 1
                · have hj1 : j + 1 < L.length := HNJ.out.1 hend
                  have hil : i < (cat L).length := by rw [HM.out]; exact hend
                  obtain ⟨Au, cu, q0, HA1⟩ := HAX.out i _ hil (HNJ.out.2 hil hj1) wr HB.out
                  obtain ⟨Au2, cu2, q1, HA2⟩ := HAX.out fr _ HFL.out (HFA.out HFL.out) wr HB.out
                  have hbw := World.block_lt_of_cell? wr _ q0
                  have hneq : ((L[j + 1].1 : Int) == (L[j]'(by omega)).1) = false := by
                    have := List.pairwise_iff_getElem.1 HK.out.asc j (j + 1) (by omega) hj1 (by omega)
                    rw [beq_eq_false_iff_ne]
                    have h9 : (L[j]'(by omega)).1 < L[j + 1].1 := this
                    omega
                  obtain ⟨a1, ha1⟩ : ∃ a1, L[j + 1].1 = a1 := ⟨_, rfl⟩
                  obtain ⟨a2, ha2⟩ : ∃ a2, (L[j]'(by omega)).1 = a2 := ⟨_, rfl⟩
                  rw [ha1] at HA1 hneq
                  rw [ha2] at HA2 hneq
                  clear ha1 ha2
                  have hd4 : (i : Int) < (M : Int) + 1 := by omega
                  go_wp2_with fail
                  refine HA1.mono ?_
                  rintro e w7 ⟨rfl, hw7⟩
                  obtain rfl := hw7.symm
                  clear hw7
                  go_wp2_with fail
                  refine HA2.mono ?_
                  rintro e w7 ⟨rfl, hw7⟩
                  obtain rfl := hw7.symm
                  clear hw7
                  go_wp2_with fail
                  refine (HIH.out _ (Below.refl _ _)).mono ?_
                  rintro e w6 ⟨g2, rfl, hn2, hb2⟩
                  have HN2 := Lib.hid (And.intro hn2 (HB.out.trans (hb2.mono HB.out.size)))
                  have HG6 := Lib.hid (HGX.out.bel hb2)
                  have HLV := Lib.hid (show w6.cell? ⟨gx, 0, none⟩ = some (.int .i64 lvx) from Below.keeps hb2 _ _ HL0.out)
                  clear hn2 hb2
                  go_wp2_with fail
                  refine (nlev_any _ gx _ HLV.out).mono ?_
                  rintro e w7 ⟨rfl, hw7⟩
                  obtain rfl := hw7.symm
                  clear hw7
                  go_wp2_with fail
                  refine (HWI.out _ _ HG6.out HN2.out.1).mono ?_
                  rintro e w8 ⟨g3, rfl, hn3, hb3⟩
                  have HN3 := Lib.hid (And.intro hn3 (HN2.out.2.trans (hb3.mono HN2.out.2.size)))
                  clear hn3 hb3
                  go_wp2_with fail
                  go_roundw
                  case rel => exact ⟨i + 1, j + 1, some g3, rfl, FEQH.out, (by first | rw [HW.out] | rfl | simp), by omega, by omega, HNX.out, by simp, (fun g hg => by injection hg with hg; subst hg; exact HN3.out.1), HN3.out.2⟩
                  case measure => (first | (rw [intOf_of' HW.out, intOf_of' rfl]; omega) | (simp [intOf]; omega) | (simp [intOf] <;> omega))
                · have hd4 : ¬ (i : Int) < (M : Int) + 1 := by omega
                  go_wp2_with fail
                  refine (HIH.out _ (Below.refl _ _)).mono ?_
                  rintro e w6 ⟨g2, rfl, hn2, hb2⟩
                  have HN2 := Lib.hid (And.intro hn2 (HB.out.trans (hb2.mono HB.out.size)))
                  have HG6 := Lib.hid (HGX.out.bel hb2)
                  have HLV := Lib.hid (show w6.cell? ⟨gx, 0, none⟩ = some (.int .i64 lvx) from Below.keeps hb2 _ _ HL0.out)
                  clear hn2 hb2
                  go_wp2_with fail
                  refine (nlev_any _ gx _ HLV.out).mono ?_
                  rintro e w7 ⟨rfl, hw7⟩
                  obtain rfl := hw7.symm
                  clear hw7
                  go_wp2_with fail
                  refine (HWI.out _ _ HG6.out HN2.out.1).mono ?_
                  rintro e w8 ⟨g3, rfl, hn3, hb3⟩
                  have HN3 := Lib.hid (And.intro hn3 (HN2.out.2.trans (hb3.mono HN2.out.2.size)))
                  clear hn3 hb3
                  go_wp2_with fail
                  go_roundw
                  case rel => exact ⟨i + 1, j + 1, some g3, rfl, FEQH.out, (by first | rw [HW.out] | rfl | simp), by omega, by omega, HNX.out, by simp, (fun g hg => by injection hg with hg; subst hg; exact HN3.out.1), HN3.out.2⟩
                  case measure => (first | (rw [intOf_of' HW.out, intOf_of' rfl]; omega) | (simp [intOf]; omega) | (simp [intOf] <;> omega))
        · have h3 : ¬ ((M + 2 : Nat) : Int) ≤ (M : Int) + 1 := by omega
          have h2 := HK.out.two
          cases r with
          | none => exact absurd (hr.1 rfl) (by omega)
          | some gx =>
            have HG := Lib.hid (hnd gx rfl)
            simp only [pv_some]
            clear hr hnd hb
            go_wp2_with fail
            go_ret
            exact ⟨gx, rfl, by have := HG.out; rw [List.take_length] at this; exact this, HB.out⟩
theorem build_any (k : Nat) (k1 : 1 ≤ k) (k16 : k ≤ 16) : ∀ (N : Nat) (l : List En) (w : World) (v : Value), l.length ≤ N → RdE w v l → EtS k l → l ≠ [] → (∀ e ∈ l, e.v < 2 ^ 64) →
    Calls Tryz.prog 146 #[v] w fun e w' => BldR w k l e w' := by
  intro N
  induction N with
  | zero => intro l w v hN _ _ hne _; exact absurd (List.length_eq_zero_iff.1 (by omega)) hne
  | succ N ih =>
    intro l w v hN hv he hne hvv
    exact bld_step w k l v k1 k16 hv he hne hvv fun m w' v' hm h1 h2 h3 h4 => ih m w' v' (by omega) h1 h2 h3 h4
end Go.Proofs.YtdkomhmciihkiaaGreat
/-! FitP -/
namespace Go.Proofs.YtdkomhmciihkiaaGreat
open Go.RowKit
set_option linter.unusedVariables false

end Go.Proofs.YtdkomhmciihkiaaGreat
/-! FitA -/
namespace Go.Proofs.YtdkomhmciihkiaaGreat
open Go.RowKit
set_option linter.unusedVariables false
set_option linter.unusedSimpArgs false
set_option maxRecDepth 100000

theorem enters_lit' {P : Program} {f : FuncId} {fn : Func} (hf : P.funcs[f]? = some fn) (hname : (fn.name == "runtime.NumGoroutine") = false) (hb : fn.body.isSome = true) (args : Array Value) (w : World) :
    (callFunc f args).run P w = .ok (.enter f args) w := by
  have h1 : fn.name ≠ "runtime.NumGoroutine" := by simpa using hname
  obtain ⟨c, hc⟩ := Option.isSome_iff_exists.1 hb
  simp [callFunc, hf, h1, hc]
end Go.Proofs.YtdkomhmciihkiaaGreat
/-! SrtA -/
namespace Go.Proofs.YtdkomhmciihkiaaGreat
open Go.RowKit
set_option linter.unusedVariables false
set_option linter.unusedSimpArgs false
set_option maxRecDepth 100000

theorem order_any (w : World) (p q : List Nat) (u1 u2 : Value) (x y : Nat) (h1 : RdU w u1 (pti p)) (h2 : RdU w u2 (pti q)) (hl : p.length = q.length) (k1 : 1 ≤ p.length) (k16 : p.length ≤ 16) (hp : ∀ c ∈ p, c < 2 ^ 64) (hq : ∀ c ∈ q, c < 2 ^ 64) :
    Calls Tryz.prog 205 #[.agg #[u1, .int .u64 (x : Nat)], .agg #[u2, .int .u64 (y : Nat)]] w fun e w' => e = .returned (.int .i64 (Zb.cmp p q)) ∧ Below w.heap.size w w' := by
  have HC := Lib.hid (fun w' (hb : Below w.heap.size w w') => zCmp_any p q u1 u2 w' (h1.below hb) (h2.below hb) hl k1 k16 hp hq)
  obtain ⟨A1, c1, rfl, _⟩ := RdU.point h1
  obtain ⟨A2, c2, rfl, _⟩ := RdU.point h2
  clear h1 h2 hl k1 k16 hp hq
  generalize Zb.cmp p q = z at *
  go_enter Tryz.func205, Tryz.ntmps205
  go_wp2_with fail
  refine (HC.out _ (by repeat (first | exact Below.refl _ _ | (refine Below.drew ?_) | (refine below_drewN' ?_ _) | (refine below_alloc' ?_ _) | (refine Below.setCell ?_ (by first | exact Nat.le_refl _ | (simp; done) | (simp; omega)) _)))).mono ?_
  rintro e w2 ⟨rfl, hw⟩
  obtain rfl := hw.symm
  clear hw
  go_wp2_with fail
  go_ret
  exact ⟨rfl, (by repeat (first | exact Below.refl _ _ | (refine Below.drew ?_) | (refine below_drewN' ?_ _) | (refine below_alloc' ?_ _) | (refine Below.setCell ?_ (by first | exact Nat.le_refl _ | (simp; done) | (simp; omega)) _)))⟩
/-- the row at block g, with room for n, holds the elements xs -/
structure PR (W0 w : World) (g n : Nat) (xs : List Pe) : Prop where
  cells : ∃ cur, w.heap[g]? = some (.cells cur 35 (0, 0)) ∧ cur.size = n * 2 ∧ xs.length ≤ n ∧ ∀ j (h : j < xs.length), cur[j * 2]? = some xs[j].1 ∧ cur[j * 2 + 1]? = some (.int .u64 (xs[j].2.v : Nat))
  pts : ∀ x ∈ xs, RdU W0 x.1 (pti x.2.p)
  low : W0.heap.size ≤ g
  bel : Below W0.heap.size W0 w
theorem PR.at' {W0 w : World} {g n : Nat} {xs : List Pe} (h : PR W0 w g n xs) (j : Nat) (hj : j < xs.length) : w.cell? ⟨g, j * 2, none⟩ = some xs[j].1 ∧ w.cell? ⟨g, j * 2 + 1, none⟩ = some (.int .u64 (xs[j].2.v : Nat)) := by
  obtain ⟨cur, h1, h2, h3, h4⟩ := h.cells
  obtain ⟨a, b⟩ := h4 j hj
  exact ⟨by simp [World.cell?, h1, a], by simp [World.cell?, h1, b]⟩
theorem PR.thaw {W0 w : World} {g n : Nat} {xs : List Pe} (h : PR W0 w g n xs) (j : Nat) : w.frozen? ⟨g, j, none⟩ = false := by
  obtain ⟨cur, h1, _⟩ := h.cells
  simp [World.frozen?, h1]
theorem PR.lt {W0 w : World} {g n : Nat} {xs : List Pe} (h : PR W0 w g n xs) : g < w.heap.size := by
  obtain ⟨cur, h1, _⟩ := h.cells
  exact kr_lt h1
theorem PR.step {W0 w w' : World} {g n : Nat} {xs : List Pe} (h : PR W0 w g n xs) (hb : Below w.heap.size w w') : PR W0 w' g n xs := by
  obtain ⟨cur, h1, h2⟩ := h.cells
  exact ⟨⟨cur, (hb.block g h.lt).trans h1, h2⟩, h.pts, h.low, h.bel.trans (hb.mono h.bel.size)⟩
theorem PR.set {W0 w : World} {g n j : Nat} {xs : List Pe} (h : PR W0 w g n xs) (hj : j < xs.length) (x : Pe) (hx : RdU W0 x.1 (pti x.2.p)) :
    PR W0 ((w.setCell ⟨g, j * 2, none⟩ x.1).setCell ⟨g, j * 2 + 1, none⟩ (.int .u64 (x.2.v : Nat))) g n (xs.set j x) := by
  obtain ⟨cur, h1, h2, h3, h4⟩ := h.cells
  refine ⟨⟨_, kr_set (kr_set h1), by simpa using h2, by simpa using h3, fun i hi => ?_⟩, fun y hy => ?_, h.low, (h.bel.setCell (p := ⟨g, _, none⟩) h.low _).setCell (p := ⟨g, _, none⟩) h.low _⟩
  · rw [List.length_set] at hi
    obtain ⟨a, b⟩ := h4 i hi
    by_cases e : i = j
    · subst e
      simp only [List.getElem_set_self]
      refine ⟨?_, ?_⟩
      · rw [Array.getElem?_setIfInBounds_ne (by omega)]
        exact Array.getElem?_setIfInBounds_self_of_lt (by omega)
      · exact Array.getElem?_setIfInBounds_self_of_lt (by simp; omega)
    · rw [List.getElem_set_ne (by omega)]
      refine ⟨?_, ?_⟩ <;> rw [Array.getElem?_setIfInBounds_ne (by omega), Array.getElem?_setIfInBounds_ne (by omega)] <;> assumption
  · rcases List.mem_or_eq_of_mem_set hy with hy | rfl
    · exact h.pts y hy
    · exact hx
theorem swap_mid (A : List Pe) (y x : Pe) (B : List Pe) : ((A ++ y :: x :: B).set (A.length + 1) y).set A.length x = A ++ x :: y :: B := by
  rw [List.set_append_right _ _ (by omega), Nat.add_sub_cancel_left]
  simp [List.set_append_right]
theorem Srt.append {P Q : List Pe} (hp : Srt P) (hq : Srt Q) (h : ∀ x ∈ P, ∀ y ∈ Q, ek x ≤ ek y) : Srt (P ++ Q) := List.pairwise_append.2 ⟨hp, hq, h⟩
/-- what the insertion sort leaves -/
def InsR (W0 : World) (g n : Nat) (A S B : List Pe) (e : Ending) (w' : World) : Prop := ∃ S', e = .returned (.tuple #[]) ∧ PR W0 w' g n (A ++ (S' ++ B)) ∧ S'.length = S.length ∧ Stb S S' ∧ Srt S'
/-- what stands ahead of a round of the inner loop: x is on its way down -/
structure InI (W0 wr : World) (g n a : Nat) (A S R B : List Pe) (x : Pe) (P Q : List Pe) : Prop where
  pr : PR W0 wr g n (A ++ (P ++ x :: (Q ++ (R ++ B))))
  srt : Srt (P ++ Q)
  stb : Stb S (P ++ x :: (Q ++ R))
  gt : ∀ y ∈ Q, ek x < ek y
  len : P.length + Q.length + 1 + R.length = S.length
theorem InI.done {W0 wr : World} {g n a : Nat} {A S R B : List Pe} {x : Pe} {P Q : List Pe} (h : InI W0 wr g n a A S R B x P Q) (hle : ∀ y ∈ P, ek y ≤ ek x) :
    PR W0 wr g n (A ++ ((P ++ x :: Q) ++ (R ++ B))) ∧ Srt (P ++ x :: Q) ∧ Stb S ((P ++ x :: Q) ++ R) ∧ (P ++ x :: Q).length + R.length = S.length ∧ 1 ≤ (P ++ x :: Q).length := by
  refine ⟨by simpa using h.pr, ?_, by simpa using h.stb, by have := h.len; simp; omega, by simp; omega⟩
  obtain ⟨h1, h2, h3⟩ := List.pairwise_append.1 h.srt
  refine List.pairwise_append.2 ⟨h1, List.pairwise_cons.2 ⟨fun z hz => Nat.le_of_lt (h.gt z hz), h2⟩, fun y hy z hz => ?_⟩
  rcases List.mem_cons.1 hz with rfl | hz
  · exact hle y hy
  · exact h3 y hy z hz
theorem InI.step {W0 wr w' : World} {g n a : Nat} {A S R B : List Pe} {x : Pe} {P Q : List Pe} (h : InI W0 wr g n a A S R B x P Q) (hb : Below wr.heap.size wr w') : InI W0 w' g n a A S R B x P Q :=
  ⟨h.pr.step hb, h.srt, h.stb, h.gt, h.len⟩
/-- x has gone down by one -/
theorem InI.down {W0 wr w' : World} {g n a : Nat} {A S R B : List Pe} {x y : Pe} {P Q : List Pe} (h : InI W0 wr g n a A S R B x (P ++ [y]) Q) (hlt : ek x < ek y) (hpr : PR W0 w' g n (A ++ (P ++ x :: y :: (Q ++ (R ++ B))))) :
    InI W0 w' g n a A S R B x P (y :: Q) := by
  refine ⟨by simpa using hpr, by simpa using h.srt, ?_, fun z hz => ?_, by have := h.len; simp at this ⊢; omega⟩
  · refine h.stb.trans ?_
    have e1 : (P ++ [y]) ++ x :: (Q ++ R) = P ++ (([y] ++ [x]) ++ (Q ++ R)) := by simp
    have e2 : P ++ x :: ((y :: Q) ++ R) = P ++ (([x] ++ [y]) ++ (Q ++ R)) := by simp
    rw [e1, e2]
    refine (Stb.refl P).append ((Stb.swap fun u hu v hv => ?_).append (Stb.refl _))
    obtain rfl := List.mem_singleton.1 hu
    obtain rfl := List.mem_singleton.1 hv
    omega
  · rcases List.mem_cons.1 hz with rfl | hz
    · exact hlt
    · exact h.gt z hz
set_option maxHeartbeats 4000000 in
theorem isort_any (W0 w : World) (g n a b m c k : Nat) (A S B : List Pe) (hA : A.length = a) (hb : a + S.length = b) (hm : (A ++ (S ++ B)).length = m) (hmm : m ≤ 1000) (k1 : 1 ≤ k) (k16 : k ≤ 16) (h : PR W0 w g n (A ++ (S ++ B)))
    (hk : ∀ x ∈ A ++ (S ++ B), x.2.p.length = k ∧ ∀ q ∈ x.2.p, q < 2 ^ 64) (hpos : S ≠ []) :
    Calls Tryz.prog 255 #[.slice (some ⟨g, 0, none⟩) m c, .int .i64 (a : Nat), .int .i64 (b : Nat), .func (.func 205) #[] #[]] w fun e w' => InsR W0 g n A S B e w' := by
  have hent := enters_lit' Tryz.func205 (by kernel_rfl) (by kernel_rfl)
  have hml : A.length + S.length + B.length = m := by rw [← hm]; simp; omega
  have HD := Lib.hid (And.intro hA (And.intro hb (And.intro hml hmm)))
  have HK := Lib.hid (And.intro hk (And.intro k1 k16))
  have HPR := Lib.hid h
  have hwa : wrap64 ((a : Int) + 1) = ((a + 1 : Nat) : Int) := by unfold wrap64; omega
  have HWA := Lib.hid hwa
  obtain ⟨x0, S0, rfl⟩ : ∃ x S0, S = x :: S0 := by cases S with
    | nil => exact absurd rfl hpos
    | cons x S0 => exact ⟨x, S0, rfl⟩
  clear hA hb hm hmm k1 k16 h hk hpos hml
  go_enter Tryz.func255, Tryz.ntmps255
  go_wp2_with fail
  go_loopw [8, 9] (fun iv _ wr => ∃ (S1 S2 : List Pe), iv = .int .i64 ((a + S1.length : Nat) : Int) ∧ 1 ≤ S1.length ∧ S1.length + S2.length = (x0 :: S0).length ∧ PR W0 wr g n (A ++ (S1 ++ (S2 ++ B))) ∧ Srt S1 ∧ Stb (x0 :: S0) (S1 ++ S2)) (fun iv _ _ => a + (x0 :: S0).length - (intOf iv).toNat)
  case atStart => exact ⟨[x0], S0, by first | (rw [HWA.out]; rfl) | simp, by simp, by simp; omega, HPR.out, List.pairwise_singleton _ _, Stb.refl _⟩
  case round =>
    obtain ⟨S1, S2, rfl, h1, h2, hpr, hsrt, hstb⟩ := hrel
    have HI := Lib.hid (And.intro h1 (And.intro h2 (And.intro hpr (And.intro hsrt hstb))))
    obtain ⟨i, hi⟩ : ∃ i, a + S1.length = i := ⟨_, rfl⟩
    rw [hi]
    have HIE := Lib.hid hi
    have hbi : i ≤ b ∧ (i < b ↔ S2 ≠ []) := by
      have := HD.out
      refine ⟨by omega, fun h => ?_, fun h => ?_⟩
      · intro e; rw [e, List.length_nil] at h2; omega
      · have := List.length_pos_iff.2 h; omega
    have HW := Lib.hid (show wrap64 ((i : Int) + 1) = ((i + 1 : Nat) : Int) by have := HD.out; unfold wrap64; omega)
    by_cases hib : i < b
    · obtain ⟨x, R, rfl⟩ : ∃ x R, S2 = x :: R := by cases S2 with
        | nil => exact absurd rfl (hbi.2.1 hib)
        | cons x R => exact ⟨x, R, rfl⟩
      have h3 : (i : Int) < (b : Int) := by omega
      have HIN : Hid (InI W0 wr g n a A (x0 :: S0) R B x S1 []) := Lib.hid ⟨by simpa using hpr, by simpa using hsrt, by simpa using hstb, by simp, by simp at h2 ⊢; omega⟩
      clear h1 h2 hpr hsrt hstb hi hbi
      go_wp2_with fail
      go_loopw [9] (fun jv wr => ∃ (P Q : List Pe), jv = .int .i64 ((a + P.length : Nat) : Int) ∧ InI W0 wr g n a A (x0 :: S0) R B x P Q) (fun jv _ => (intOf jv).toNat)
      case atStart => exact ⟨S1, [], by rw [HIE.out], HIN.out⟩
      case round =>
        obtain ⟨P, Q, rfl, hin⟩ := hrel
        have HN := Lib.hid hin
        rcases List.eq_nil_or_concat P with rfl | ⟨P', y, rfl⟩
        · clear hin
          simp only [List.length_nil, Nat.add_zero]
          go_wp2_with fail
          refine wp_region_vals 16 [fun z9 _ => z9 = .int .i64 (a : Nat),
            fun z9 _ => z9 = .int .i64 (a : Nat),
            fun z9 _ => z9 = .bool false,
            fun z9 _ => z9 = .bool false,
            fun z9 _ => z9 = undef,
            fun z9 _ => z9 = undef,
            fun z9 _ => z9 = undef,
            fun z9 _ => z9 = undef,
            fun z9 _ => z9 = undef,
            fun z9 _ => z9 = undef,
            fun z9 _ => z9 = undef,
            fun z9 _ => z9 = undef,
            fun z9 _ => z9 = undef,
            fun z9 _ => z9 = undef,
            fun z9 _ => z9 = undef,
            fun z9 _ => z9 = undef]
            (by kernel_rfl) (by kernel_rfl) (by kernel_rfl) (by kernel_rfl) ?_ ?_ ?_
          · intro V hV v w1 w2 h hb
            simp only [List.mem_cons, List.not_mem_nil, or_false] at hV
            rcases hV with rfl | rfl | rfl | rfl | rfl | rfl | rfl | rfl | rfl | rfl | rfl | rfl | rfl | rfl | rfl | rfl
            all_goals first | exact h | (exact h)
          · intro iq oq hiq hoq
            match iq, hiq with
            | 0, _ =>
            obtain rfl := Option.some.inj hoq
            intro a1 w1 K hk hK
            have e9 : a1.tmps.getD 9 undef = .int .i64 (a : Nat) := hk.same 9 (by simp)
            simp [Region.wanted, Oper.wp, Act.eval, go_sem, e9]
            exact hK _ _ (Below.refl _ _) rfl
            | 1, _ =>
            obtain rfl := Option.some.inj hoq
            intro a1 w1 K hk hK
            have e1 : a1.tmps.getD 1 undef = .int .i64 (a : Nat) := hk.same 1 (by simp)
            simp [Region.wanted, Oper.wp, Act.eval, go_sem, e1]
            exact hK _ _ (Below.refl _ _) rfl
            | 2, _ =>
            obtain rfl := Option.some.inj hoq
            intro a1 w1 K hk hK
            have d18 : a1.tmps.getD 18 undef = .int .i64 (a : Nat) := hk.deps ⟨0, .data⟩ (by simp) rfl _ _ rfl rfl
            have d19 : a1.tmps.getD 19 undef = .int .i64 (a : Nat) := hk.deps ⟨1, .data⟩ (by simp) rfl _ _ rfl rfl
            simp [Region.wanted, Oper.wp, Act.eval, go_sem, d18, d19]
            exact hK _ _ (Below.refl _ _) rfl
            | 3, _ =>
            obtain rfl := Option.some.inj hoq
            intro a1 w1 K hk hK
            have d20 : a1.tmps.getD 20 undef = .bool false := hk.deps ⟨2, .data⟩ (by simp) rfl _ _ rfl rfl
            simp [Region.wanted, Oper.wp, Act.eval, go_sem, d20]
            exact hK _ _ (Below.refl _ _) rfl
            | 4, _ =>
            obtain rfl := Option.some.inj hoq
            intro a1 w1 K hk hK
            have e3 : a1.tmps.getD 3 undef = .func (.func 205) #[] #[] := hk.same 3 (by simp)
            have gd : a1.tmps[21]? = some (.bool false) := getD_bool (hk.deps ⟨3, .guard⟩ (by simp) rfl _ _ rfl rfl)
            simp [Region.wanted, Oper.wp, Act.eval, go_sem, e3, gd, yielded]
            exact hK _ _ (Below.refl _ _) rfl
            | 5, _ =>
            obtain rfl := Option.some.inj hoq
            intro a1 w1 K hk hK
            have e0 : a1.tmps.getD 0 undef = .slice (some ⟨g, 0, none⟩) m c := hk.same 0 (by simp)
            have gd : a1.tmps[21]? = some (.bool false) := getD_bool (hk.deps ⟨3, .guard⟩ (by simp) rfl _ _ rfl rfl)
            simp [Region.wanted, Oper.wp, Act.eval, go_sem, e0, gd, yielded]
            exact hK _ _ (Below.refl _ _) rfl
            | 6, _ =>
            obtain rfl := Option.some.inj hoq
            intro a1 w1 K hk hK
            have e9 : a1.tmps.getD 9 undef = .int .i64 (a : Nat) := hk.same 9 (by simp)
            have gd : a1.tmps[21]? = some (.bool false) := getD_bool (hk.deps ⟨3, .guard⟩ (by simp) rfl _ _ rfl rfl)
            simp [Region.wanted, Oper.wp, Act.eval, go_sem, e9, gd, yielded]
            exact hK _ _ (Below.refl _ _) rfl
            | 7, _ =>
            obtain rfl := Option.some.inj hoq
            intro a1 w1 K hk hK
            have d23 : a1.tmps.getD 23 undef = undef := hk.deps ⟨5, .data⟩ (by simp) rfl _ _ rfl rfl
            have d24 : a1.tmps.getD 24 undef = undef := hk.deps ⟨6, .data⟩ (by simp) rfl _ _ rfl rfl
            have gd : a1.tmps[21]? = some (.bool false) := getD_bool (hk.deps ⟨3, .guard⟩ (by simp) rfl _ _ rfl rfl)
            simp [Region.wanted, Oper.wp, Act.eval, go_sem, d23, d24, gd, yielded]
            exact hK _ _ (Below.refl _ _) rfl
            | 8, _ =>
            obtain rfl := Option.some.inj hoq
            intro a1 w1 K hk hK
            have d25 : a1.tmps.getD 25 undef = undef := hk.deps ⟨7, .data⟩ (by simp) rfl _ _ rfl rfl
            have gd : a1.tmps[21]? = some (.bool false) := getD_bool (hk.deps ⟨3, .guard⟩ (by simp) rfl _ _ rfl rfl)
            simp [Region.wanted, Oper.wp, Act.eval, go_sem, d25, gd, yielded]
            exact hK _ _ (Below.refl _ _) rfl
            | 9, _ =>
            obtain rfl := Option.some.inj hoq
            intro a1 w1 K hk hK
            have e0 : a1.tmps.getD 0 undef = .slice (some ⟨g, 0, none⟩) m c := hk.same 0 (by simp)
            have gd : a1.tmps[21]? = some (.bool false) := getD_bool (hk.deps ⟨3, .guard⟩ (by simp) rfl _ _ rfl rfl)
            simp [Region.wanted, Oper.wp, Act.eval, go_sem, e0, gd, yielded]
            exact hK _ _ (Below.refl _ _) rfl
            | 10, _ =>
            obtain rfl := Option.some.inj hoq
            intro a1 w1 K hk hK
            have e9 : a1.tmps.getD 9 undef = .int .i64 (a : Nat) := hk.same 9 (by simp)
            have gd : a1.tmps[21]? = some (.bool false) := getD_bool (hk.deps ⟨3, .guard⟩ (by simp) rfl _ _ rfl rfl)
            simp [Region.wanted, Oper.wp, Act.eval, go_sem, e9, gd, yielded]
            exact hK _ _ (Below.refl _ _) rfl
            | 11, _ =>
            obtain rfl := Option.some.inj hoq
            intro a1 w1 K hk hK
            have d28 : a1.tmps.getD 28 undef = undef := hk.deps ⟨10, .data⟩ (by simp) rfl _ _ rfl rfl
            have gd : a1.tmps[21]? = some (.bool false) := getD_bool (hk.deps ⟨3, .guard⟩ (by simp) rfl _ _ rfl rfl)
            simp [Region.wanted, Oper.wp, Act.eval, go_sem, d28, gd, yielded]
            exact hK _ _ (Below.refl _ _) rfl
            | 12, _ =>
            obtain rfl := Option.some.inj hoq
            intro a1 w1 K hk hK
            have d27 : a1.tmps.getD 27 undef = undef := hk.deps ⟨9, .data⟩ (by simp) rfl _ _ rfl rfl
            have d29 : a1.tmps.getD 29 undef = undef := hk.deps ⟨11, .data⟩ (by simp) rfl _ _ rfl rfl
            have gd : a1.tmps[21]? = some (.bool false) := getD_bool (hk.deps ⟨3, .guard⟩ (by simp) rfl _ _ rfl rfl)
            simp [Region.wanted, Oper.wp, Act.eval, go_sem, d27, d29, gd, yielded]
            exact hK _ _ (Below.refl _ _) rfl
            | 13, _ =>
            obtain rfl := Option.some.inj hoq
            intro a1 w1 K hk hK
            have d30 : a1.tmps.getD 30 undef = undef := hk.deps ⟨12, .data⟩ (by simp) rfl _ _ rfl rfl
            have gd : a1.tmps[21]? = some (.bool false) := getD_bool (hk.deps ⟨3, .guard⟩ (by simp) rfl _ _ rfl rfl)
            simp [Region.wanted, Oper.wp, Act.eval, go_sem, d30, gd, yielded]
            exact hK _ _ (Below.refl _ _) rfl
            | 14, _ =>
            obtain rfl := Option.some.inj hoq
            intro a1 w1 K hk hK
            have d22 : a1.tmps.getD 22 undef = undef := hk.deps ⟨4, .data⟩ (by simp) rfl _ _ rfl rfl
            have d26 : a1.tmps.getD 26 undef = undef := hk.deps ⟨8, .data⟩ (by simp) rfl _ _ rfl rfl
            have d31 : a1.tmps.getD 31 undef = undef := hk.deps ⟨13, .data⟩ (by simp) rfl _ _ rfl rfl
            have gd : a1.tmps[21]? = some (.bool false) := getD_bool (hk.deps ⟨3, .guard⟩ (by simp) rfl _ _ rfl rfl)
            simp [Region.wanted, Oper.wp, Act.eval, go_sem, d22, d26, d31, gd, yielded]
            exact hK _ _ (Below.refl _ _) rfl
            | 15, _ =>
            obtain rfl := Option.some.inj hoq
            intro a1 w1 K hk hK
            have d32 : a1.tmps.getD 32 undef = undef := hk.deps ⟨14, .data⟩ (by simp) rfl _ _ rfl rfl
            have gd : a1.tmps[21]? = some (.bool false) := getD_bool (hk.deps ⟨3, .guard⟩ (by simp) rfl _ _ rfl rfl)
            simp [Region.wanted, Oper.wp, Act.eval, go_sem, d32, gd, yielded]
            exact hK _ _ (Below.refl _ _) rfl
            | k + 16, hk => exact absurd hk (by omega)
          · intro vs w3 hl hb3 hv
            match vs, hl with
            | [v0, v1, v2, v3, v4, v5, v6, v7, v8, v9, v10, v11, v12, v13, v14, v15], _ =>
            obtain rfl : v0 = .int .i64 (a : Nat) := hv 0 (by omega)
            obtain rfl : v1 = .int .i64 (a : Nat) := hv 1 (by omega)
            obtain rfl : v2 = .bool false := hv 2 (by omega)
            obtain rfl : v3 = .bool false := hv 3 (by omega)
            obtain rfl : v4 = undef := hv 4 (by omega)
            obtain rfl : v5 = undef := hv 5 (by omega)
            obtain rfl : v6 = undef := hv 6 (by omega)
            obtain rfl : v7 = undef := hv 7 (by omega)
            obtain rfl : v8 = undef := hv 8 (by omega)
            obtain rfl : v9 = undef := hv 9 (by omega)
            obtain rfl : v10 = undef := hv 10 (by omega)
            obtain rfl : v11 = undef := hv 11 (by omega)
            obtain rfl : v12 = undef := hv 12 (by omega)
            obtain rfl : v13 = undef := hv 13 (by omega)
            obtain rfl : v14 = undef := hv 14 (by omega)
            obtain rfl : v15 = undef := hv 15 (by omega)
            clear hv
            simp only [putAll, List.take_succ_cons, List.take_zero, List.drop_succ_cons, List.drop_zero, Act.put, List.setIfInBounds_toArray, List.set_cons_succ, List.set_cons_zero]
            have DN := Lib.hid ((HN.out.step (show Below wr.heap.size wr w3 from hb3)).done (by simp))
            clear hb3
            go_wp2_with fail
            go_roundw
            case rel =>
              obtain ⟨d1, d2, d3, d4, d5⟩ := DN.out
              exact ⟨[] ++ x :: Q, R, by rw [HW.out]; congr 2; have e1 := HI.out.2.1; have e2 := HIE.out; have e3 := HD.out.2.1; simp only [List.length_cons] at e1 e3 d4; omega, d5, d4, d1, d2, d3⟩
            case measure => rw [intOf_of' HW.out, intOf_nat]; have e3 := HD.out.2.1; omega
        · rw [List.concat_eq_append] at *
          obtain ⟨uy, py, vy⟩ := y
          have hmy : (⟨uy, ⟨py, vy⟩⟩ : Pe) ∈ A ++ ((P' ++ [(⟨uy, ⟨py, vy⟩⟩ : Pe)]) ++ x :: (Q ++ (R ++ B))) := by simp
          have hmx : x ∈ A ++ ((P' ++ [(⟨uy, ⟨py, vy⟩⟩ : Pe)]) ++ x :: (Q ++ (R ++ B))) := by simp
          have hsub : ∀ z, z ∈ A ++ ((P' ++ [(⟨uy, ⟨py, vy⟩⟩ : Pe)]) ++ x :: (Q ++ (R ++ B))) → z ∈ A ++ ((x0 :: S0) ++ B) := by
            intro z hz
            have h1 := hin.stb.mem (x := z)
            simp only [List.mem_append, List.mem_cons] at hz h1 ⊢
            rcases hz with hz | hz | hz | hz | hz | hz
            · exact .inl hz
            · exact .inr (.inl (h1.2 (.inl hz)))
            · exact .inr (.inl (h1.2 (.inr (.inl hz))))
            · exact .inr (.inl (h1.2 (.inr (.inr (.inl hz)))))
            · exact .inr (.inl (h1.2 (.inr (.inr (.inr hz)))))
            · exact .inr (.inr hz)
          obtain ⟨ky, oy⟩ := HK.out.1 _ (hsub _ hmy)
          obtain ⟨kx, ox⟩ := HK.out.1 _ (hsub _ hmx)
          have ruy := hin.pr.pts _ hmy
          have rux := hin.pr.pts _ hmx
          obtain ⟨ux, px, vx⟩ := x
          simp only at ky oy kx ox ruy rux
          have hE : A ++ ((P' ++ [(⟨uy, ⟨py, vy⟩⟩ : Pe)]) ++ (⟨ux, ⟨px, vx⟩⟩ : Pe) :: (Q ++ (R ++ B))) = (A ++ P') ++ (⟨uy, ⟨py, vy⟩⟩ : Pe) :: (⟨ux, ⟨px, vx⟩⟩ : Pe) :: (Q ++ (R ++ B)) := by simp
          have hpr2 := hin.pr
          rw [hE] at hpr2
          obtain ⟨t, ht⟩ : ∃ t, (A ++ P').length = t := ⟨_, rfl⟩
          have hT1 : t + 1 < ((A ++ P') ++ (⟨uy, ⟨py, vy⟩⟩ : Pe) :: (⟨ux, ⟨px, vx⟩⟩ : Pe) :: (Q ++ (R ++ B))).length := by rw [← ht]; simp; omega
          obtain ⟨q0, q1⟩ := hpr2.at' t (by omega)
          obtain ⟨k0, k1⟩ := hpr2.at' (t + 1) hT1
          have g1 : ((A ++ P') ++ (⟨uy, ⟨py, vy⟩⟩ : Pe) :: (⟨ux, ⟨px, vx⟩⟩ : Pe) :: (Q ++ (R ++ B)))[t]'(by omega) = ⟨uy, ⟨py, vy⟩⟩ := by subst ht; simp
          have g2 : ((A ++ P') ++ (⟨uy, ⟨py, vy⟩⟩ : Pe) :: (⟨ux, ⟨px, vx⟩⟩ : Pe) :: (Q ++ (R ++ B)))[t + 1]'hT1 = ⟨ux, ⟨px, vx⟩⟩ := by subst ht; rw [List.getElem_append_right (by omega)]; simp
          rw [g1] at q0 q1
          rw [g2] at k0 k1
          have HOR := Lib.hid (fun W (hb2 : Below wr.heap.size wr W) => order_any W px py ux uy vx vy (rux.below (hin.pr.bel.trans (hb2.mono hin.pr.bel.size))) (ruy.below (hin.pr.bel.trans (hb2.mono hin.pr.bel.size))) (by omega) (by have := HK.out.2.1; omega) (by have := HK.out.2.2; omega) ox oy)
          have hthaw : ∀ q, wr.frozen? ⟨g, q, none⟩ = false := fun q => hpr2.thaw q
          have HP2 := Lib.hid (And.intro hpr2 (And.intro ht (And.intro rux ruy)))
          have HLEN := Lib.hid hin.len
          obtain ⟨Ax, cx, rfl, _⟩ := RdU.point rux
          obtain ⟨Ay, cy, rfl, _⟩ := RdU.point ruy
          have HKK := Lib.hid (And.intro kx ky)
          rw [kx] at k0 HOR
          rw [ky] at q0 HOR
          simp only at q0 q1 k0 k1
          have htm : t + 1 < m := by
            have e1 := HD.out.1; have e3 := HD.out.2.2.1; have e2 := HN.out.len; have e4 : A.length + P'.length = t := by rw [← ht]; simp
            simp only [List.length_append, List.length_singleton] at e2
            omega
          have hta : a ≤ t := by have e1 := HD.out.1; have e4 : A.length + P'.length = t := by rw [← ht]; simp
                                 omega
          have HJT := Lib.hid (show a + P'.length = t by have e1 := HD.out.1; have e4 : A.length + P'.length = t := by rw [← ht]; simp
                                                         omega)
          have hjv : ((a + (P' ++ [(⟨.slice Ay py.length cy, ⟨py, vy⟩⟩ : Pe)]).length : Nat) : Int) = (t : Int) + 1 := by
            have e1 := HJT.out
            simp only [List.length_append, List.length_singleton]
            omega
          rw [hjv]
          have ht1 : (0 : Int) ≤ (t : Int) := by omega
          have ht2 : (t : Int) < (m : Int) := by omega
          have ht3 : (t : Int) + 1 < (m : Int) := by omega
          have ht4 : (0 : Int) ≤ (t : Int) + 1 := by omega
          have ht5 : (t : Int) + 1 > (a : Int) := by omega
          have ht6 : t < m := by omega
          have ht7 : t + 1 < m := htm
          have hgl := hin.pr.lt
          have hwt2 : IntKind.i64.wrap (t : Int) = (t : Int) := by have := HD.out; rw [IntKind.wrap_i64]; omega
          have hwt : wrap64 (t : Int) = (t : Int) := by have := HD.out; unfold wrap64; omega
          obtain ⟨z, hz⟩ : ∃ z, Zb.cmp px py = z := ⟨_, rfl⟩
          rw [hz] at HOR
          have HZ := Lib.hid (show z < 0 ↔ pkey px < pkey py from hz ▸ cmp_neg px py)
          obtain ⟨zb, hzb⟩ : ∃ zb, decide (z < 0) = zb := ⟨_, rfl⟩
          have HZB := Lib.hid hzb
          clear hz hin hpr2 hE ruy rux oy ox ky kx hsub hmy hmx g1 g2 hT1 hjv hta htm ht
          go_wp2_with fail
          refine wp_region_vals 16 [fun z9 _ => z9 = .int .i64 ((t : Int) + 1),
            fun z9 _ => z9 = .int .i64 (a : Nat),
            fun z9 _ => z9 = .bool true,
            fun z9 _ => z9 = .bool true,
            fun z9 _ => z9 = .func (.func 205) #[] #[],
            fun z9 _ => z9 = .slice (some ⟨g, 0, none⟩) m c,
            fun z9 _ => z9 = .int .i64 ((t : Int) + 1),
            fun z9 _ => z9 = .pointer (some ⟨g, (t + 1) * 2, none⟩),
            fun z9 _ => z9 = .agg #[.slice Ax k cx, .int .u64 (vx : Nat)],
            fun z9 _ => z9 = .slice (some ⟨g, 0, none⟩) m c,
            fun z9 _ => z9 = .int .i64 ((t : Int) + 1),
            fun z9 _ => z9 = .int .i64 (t : Nat),
            fun z9 _ => z9 = .pointer (some ⟨g, t * 2, none⟩),
            fun z9 _ => z9 = .agg #[.slice Ay k cy, .int .u64 (vy : Nat)],
            fun z9 _ => z9 = .int .i64 z,
            fun z9 _ => z9 = .bool zb]
            (by kernel_rfl) (by kernel_rfl) (by kernel_rfl) (by kernel_rfl) ?_ ?_ ?_
          · intro V hV v w1 w2 h hb
            simp only [List.mem_cons, List.not_mem_nil, or_false] at hV
            rcases hV with rfl | rfl | rfl | rfl | rfl | rfl | rfl | rfl | rfl | rfl | rfl | rfl | rfl | rfl | rfl | rfl
            all_goals first | exact h | (exact h)
          · intro iq oq hiq hoq
            match iq, hiq with
            | 0, _ =>
            obtain rfl := Option.some.inj hoq
            intro a1 w1 K hk hK
            have e9 : a1.tmps.getD 9 undef = .int .i64 ((t : Int) + 1) := hk.same 9 (by simp)
            simp [Region.wanted, Oper.wp, Act.eval, go_sem, e9, k0, k1, q0, q1, ht1, ht2, ht3, ht4, ht5, ht6, ht7, hgl, hent, hzb, hwt, hwt2]
            exact hK _ _ (Below.refl _ _) rfl
            | 1, _ =>
            obtain rfl := Option.some.inj hoq
            intro a1 w1 K hk hK
            have e1 : a1.tmps.getD 1 undef = .int .i64 (a : Nat) := hk.same 1 (by simp)
            simp [Region.wanted, Oper.wp, Act.eval, go_sem, e1, k0, k1, q0, q1, ht1, ht2, ht3, ht4, ht5, ht6, ht7, hgl, hent, hzb, hwt, hwt2]
            exact hK _ _ (Below.refl _ _) rfl
            | 2, _ =>
            obtain rfl := Option.some.inj hoq
            intro a1 w1 K hk hK
            have d18 : a1.tmps.getD 18 undef = .int .i64 ((t : Int) + 1) := hk.deps ⟨0, .data⟩ (by simp) rfl _ _ rfl rfl
            have d19 : a1.tmps.getD 19 undef = .int .i64 (a : Nat) := hk.deps ⟨1, .data⟩ (by simp) rfl _ _ rfl rfl
            simp [Region.wanted, Oper.wp, Act.eval, go_sem, d18, d19, k0, k1, q0, q1, ht1, ht2, ht3, ht4, ht5, ht6, ht7, hgl, hent, hzb, hwt, hwt2]
            exact hK _ _ (Below.refl _ _) rfl
            | 3, _ =>
            obtain rfl := Option.some.inj hoq
            intro a1 w1 K hk hK
            have d20 : a1.tmps.getD 20 undef = .bool true := hk.deps ⟨2, .data⟩ (by simp) rfl _ _ rfl rfl
            simp [Region.wanted, Oper.wp, Act.eval, go_sem, d20, k0, k1, q0, q1, ht1, ht2, ht3, ht4, ht5, ht6, ht7, hgl, hent, hzb, hwt, hwt2]
            exact hK _ _ (Below.refl _ _) rfl
            | 4, _ =>
            obtain rfl := Option.some.inj hoq
            intro a1 w1 K hk hK
            have e3 : a1.tmps.getD 3 undef = .func (.func 205) #[] #[] := hk.same 3 (by simp)
            have gd : a1.tmps[21]? = some (.bool true) := getD_bool (hk.deps ⟨3, .guard⟩ (by simp) rfl _ _ rfl rfl)
            simp [Region.wanted, Oper.wp, Act.eval, go_sem, e3, gd, yielded, k0, k1, q0, q1, ht1, ht2, ht3, ht4, ht5, ht6, ht7, hgl, hent, hzb, hwt, hwt2]
            exact hK _ _ (Below.refl _ _) rfl
            | 5, _ =>
            obtain rfl := Option.some.inj hoq
            intro a1 w1 K hk hK
            have e0 : a1.tmps.getD 0 undef = .slice (some ⟨g, 0, none⟩) m c := hk.same 0 (by simp)
            have gd : a1.tmps[21]? = some (.bool true) := getD_bool (hk.deps ⟨3, .guard⟩ (by simp) rfl _ _ rfl rfl)
            simp [Region.wanted, Oper.wp, Act.eval, go_sem, e0, gd, yielded, k0, k1, q0, q1, ht1, ht2, ht3, ht4, ht5, ht6, ht7, hgl, hent, hzb, hwt, hwt2]
            exact hK _ _ (Below.refl _ _) rfl
            | 6, _ =>
            obtain rfl := Option.some.inj hoq
            intro a1 w1 K hk hK
            have e9 : a1.tmps.getD 9 undef = .int .i64 ((t : Int) + 1) := hk.same 9 (by simp)
            have gd : a1.tmps[21]? = some (.bool true) := getD_bool (hk.deps ⟨3, .guard⟩ (by simp) rfl _ _ rfl rfl)
            simp [Region.wanted, Oper.wp, Act.eval, go_sem, e9, gd, yielded, k0, k1, q0, q1, ht1, ht2, ht3, ht4, ht5, ht6, ht7, hgl, hent, hzb, hwt, hwt2]
            exact hK _ _ (Below.refl _ _) rfl
            | 7, _ =>
            obtain rfl := Option.some.inj hoq
            intro a1 w1 K hk hK
            have d23 : a1.tmps.getD 23 undef = .slice (some ⟨g, 0, none⟩) m c := hk.deps ⟨5, .data⟩ (by simp) rfl _ _ rfl rfl
            have d24 : a1.tmps.getD 24 undef = .int .i64 ((t : Int) + 1) := hk.deps ⟨6, .data⟩ (by simp) rfl _ _ rfl rfl
            have gd : a1.tmps[21]? = some (.bool true) := getD_bool (hk.deps ⟨3, .guard⟩ (by simp) rfl _ _ rfl rfl)
            simp [Region.wanted, Oper.wp, Act.eval, go_sem, d23, d24, gd, yielded, k0, k1, q0, q1, ht1, ht2, ht3, ht4, ht5, ht6, ht7, hgl, hent, hzb, hwt, hwt2]
            exact hK _ _ (Below.refl _ _) rfl
            | 8, _ =>
            obtain rfl := Option.some.inj hoq
            intro a1 w1 K hk hK
            have d25 : a1.tmps.getD 25 undef = .pointer (some ⟨g, (t + 1) * 2, none⟩) := hk.deps ⟨7, .data⟩ (by simp) rfl _ _ rfl rfl
            have gd : a1.tmps[21]? = some (.bool true) := getD_bool (hk.deps ⟨3, .guard⟩ (by simp) rfl _ _ rfl rfl)
            have c0 : w1.cell? ⟨g, (t + 1) * 2, none⟩ = some (.slice Ax k cx) := Below.keeps hk.ext _ _ (by simp [go_sem, k0, k1, q0, q1, ht1, ht2, ht3, ht4, ht5, ht6, ht7, hgl, hent, hzb, hwt, hwt2])
            have c1 : w1.cell? ⟨g, (t + 1) * 2 + 1, none⟩ = some (.int .u64 (vx : Nat)) := Below.keeps hk.ext _ _ (by simp [go_sem, k0, k1, q0, q1, ht1, ht2, ht3, ht4, ht5, ht6, ht7, hgl, hent, hzb, hwt, hwt2])
            have c2 : w1.cell? ⟨g, t * 2, none⟩ = some (.slice Ay k cy) := Below.keeps hk.ext _ _ (by simp [go_sem, k0, k1, q0, q1, ht1, ht2, ht3, ht4, ht5, ht6, ht7, hgl, hent, hzb, hwt, hwt2])
            have c3 : w1.cell? ⟨g, t * 2 + 1, none⟩ = some (.int .u64 (vy : Nat)) := Below.keeps hk.ext _ _ (by simp [go_sem, k0, k1, q0, q1, ht1, ht2, ht3, ht4, ht5, ht6, ht7, hgl, hent, hzb, hwt, hwt2])
            simp [Region.wanted, Oper.wp, Act.eval, go_sem, d25, gd, yielded, c0, c1, c2, c3, k0, k1, q0, q1, ht1, ht2, ht3, ht4, ht5, ht6, ht7, hgl, hent, hzb, hwt, hwt2]
            exact hK _ _ (Below.refl _ _) rfl
            | 9, _ =>
            obtain rfl := Option.some.inj hoq
            intro a1 w1 K hk hK
            have e0 : a1.tmps.getD 0 undef = .slice (some ⟨g, 0, none⟩) m c := hk.same 0 (by simp)
            have gd : a1.tmps[21]? = some (.bool true) := getD_bool (hk.deps ⟨3, .guard⟩ (by simp) rfl _ _ rfl rfl)
            simp [Region.wanted, Oper.wp, Act.eval, go_sem, e0, gd, yielded, k0, k1, q0, q1, ht1, ht2, ht3, ht4, ht5, ht6, ht7, hgl, hent, hzb, hwt, hwt2]
            exact hK _ _ (Below.refl _ _) rfl
            | 10, _ =>
            obtain rfl := Option.some.inj hoq
            intro a1 w1 K hk hK
            have e9 : a1.tmps.getD 9 undef = .int .i64 ((t : Int) + 1) := hk.same 9 (by simp)
            have gd : a1.tmps[21]? = some (.bool true) := getD_bool (hk.deps ⟨3, .guard⟩ (by simp) rfl _ _ rfl rfl)
            simp [Region.wanted, Oper.wp, Act.eval, go_sem, e9, gd, yielded, k0, k1, q0, q1, ht1, ht2, ht3, ht4, ht5, ht6, ht7, hgl, hent, hzb, hwt, hwt2]
            exact hK _ _ (Below.refl _ _) rfl
            | 11, _ =>
            obtain rfl := Option.some.inj hoq
            intro a1 w1 K hk hK
            have d28 : a1.tmps.getD 28 undef = .int .i64 ((t : Int) + 1) := hk.deps ⟨10, .data⟩ (by simp) rfl _ _ rfl rfl
            have gd : a1.tmps[21]? = some (.bool true) := getD_bool (hk.deps ⟨3, .guard⟩ (by simp) rfl _ _ rfl rfl)
            simp [Region.wanted, Oper.wp, Act.eval, go_sem, d28, gd, yielded, k0, k1, q0, q1, ht1, ht2, ht3, ht4, ht5, ht6, ht7, hgl, hent, hzb, hwt, hwt2]
            exact hK _ _ (Below.refl _ _) rfl
            | 12, _ =>
            obtain rfl := Option.some.inj hoq
            intro a1 w1 K hk hK
            have d27 : a1.tmps.getD 27 undef = .slice (some ⟨g, 0, none⟩) m c := hk.deps ⟨9, .data⟩ (by simp) rfl _ _ rfl rfl
            have d29 : a1.tmps.getD 29 undef = .int .i64 (t : Nat) := hk.deps ⟨11, .data⟩ (by simp) rfl _ _ rfl rfl
            have gd : a1.tmps[21]? = some (.bool true) := getD_bool (hk.deps ⟨3, .guard⟩ (by simp) rfl _ _ rfl rfl)
            simp [Region.wanted, Oper.wp, Act.eval, go_sem, d27, d29, gd, yielded, k0, k1, q0, q1, ht1, ht2, ht3, ht4, ht5, ht6, ht7, hgl, hent, hzb, hwt, hwt2]
            exact hK _ _ (Below.refl _ _) rfl
            | 13, _ =>
            obtain rfl := Option.some.inj hoq
            intro a1 w1 K hk hK
            have d30 : a1.tmps.getD 30 undef = .pointer (some ⟨g, t * 2, none⟩) := hk.deps ⟨12, .data⟩ (by simp) rfl _ _ rfl rfl
            have gd : a1.tmps[21]? = some (.bool true) := getD_bool (hk.deps ⟨3, .guard⟩ (by simp) rfl _ _ rfl rfl)
            have c0 : w1.cell? ⟨g, (t + 1) * 2, none⟩ = some (.slice Ax k cx) := Below.keeps hk.ext _ _ (by simp [go_sem, k0, k1, q0, q1, ht1, ht2, ht3, ht4, ht5, ht6, ht7, hgl, hent, hzb, hwt, hwt2])
            have c1 : w1.cell? ⟨g, (t + 1) * 2 + 1, none⟩ = some (.int .u64 (vx : Nat)) := Below.keeps hk.ext _ _ (by simp [go_sem, k0, k1, q0, q1, ht1, ht2, ht3, ht4, ht5, ht6, ht7, hgl, hent, hzb, hwt, hwt2])
            have c2 : w1.cell? ⟨g, t * 2, none⟩ = some (.slice Ay k cy) := Below.keeps hk.ext _ _ (by simp [go_sem, k0, k1, q0, q1, ht1, ht2, ht3, ht4, ht5, ht6, ht7, hgl, hent, hzb, hwt, hwt2])
            have c3 : w1.cell? ⟨g, t * 2 + 1, none⟩ = some (.int .u64 (vy : Nat)) := Below.keeps hk.ext _ _ (by simp [go_sem, k0, k1, q0, q1, ht1, ht2, ht3, ht4, ht5, ht6, ht7, hgl, hent, hzb, hwt, hwt2])
            simp [Region.wanted, Oper.wp, Act.eval, go_sem, d30, gd, yielded, c0, c1, c2, c3, k0, k1, q0, q1, ht1, ht2, ht3, ht4, ht5, ht6, ht7, hgl, hent, hzb, hwt, hwt2]
            exact hK _ _ (Below.refl _ _) rfl
            | 14, _ =>
            obtain rfl := Option.some.inj hoq
            intro a1 w1 K hk hK
            have d22 : a1.tmps.getD 22 undef = .func (.func 205) #[] #[] := hk.deps ⟨4, .data⟩ (by simp) rfl _ _ rfl rfl
            have d26 : a1.tmps.getD 26 undef = .agg #[.slice Ax k cx, .int .u64 (vx : Nat)] := hk.deps ⟨8, .data⟩ (by simp) rfl _ _ rfl rfl
            have d31 : a1.tmps.getD 31 undef = .agg #[.slice Ay k cy, .int .u64 (vy : Nat)] := hk.deps ⟨13, .data⟩ (by simp) rfl _ _ rfl rfl
            have gd : a1.tmps[21]? = some (.bool true) := getD_bool (hk.deps ⟨3, .guard⟩ (by simp) rfl _ _ rfl rfl)
            simp [Region.wanted, Oper.wp, Act.eval, go_sem, d22, d26, d31, gd, yielded, k0, k1, q0, q1, ht1, ht2, ht3, ht4, ht5, ht6, ht7, hgl, hent, hzb, hwt, hwt2]
            refine (HOR.out _ (below_trans (by repeat (first | exact Below.refl _ _ | (refine Below.drew ?_) | (refine below_drewN' ?_ _) | (refine below_alloc' ?_ _) | (refine Below.setCell ?_ (by first | exact Nat.le_refl _ | (simp; done) | (simp; omega)) _))) hk.ext)).mono ?_
            rintro e w9 ⟨rfl, hb9⟩
            exact hK _ _ hb9 rfl
            | 15, _ =>
            obtain rfl := Option.some.inj hoq
            intro a1 w1 K hk hK
            have d32 : a1.tmps.getD 32 undef = .int .i64 z := hk.deps ⟨14, .data⟩ (by simp) rfl _ _ rfl rfl
            have gd : a1.tmps[21]? = some (.bool true) := getD_bool (hk.deps ⟨3, .guard⟩ (by simp) rfl _ _ rfl rfl)
            simp [Region.wanted, Oper.wp, Act.eval, go_sem, d32, gd, yielded, k0, k1, q0, q1, ht1, ht2, ht3, ht4, ht5, ht6, ht7, hgl, hent, hzb, hwt, hwt2]
            exact hK _ _ (Below.refl _ _) rfl
            | k + 16, hk => exact absurd hk (by omega)
          · intro vs w3 hl hb3 hv
            match vs, hl with
            | [v0, v1, v2, v3, v4, v5, v6, v7, v8, v9, v10, v11, v12, v13, v14, v15], _ =>
            obtain rfl : v0 = .int .i64 ((t : Int) + 1) := hv 0 (by omega)
            obtain rfl : v1 = .int .i64 (a : Nat) := hv 1 (by omega)
            obtain rfl : v2 = .bool true := hv 2 (by omega)
            obtain rfl : v3 = .bool true := hv 3 (by omega)
            obtain rfl : v4 = .func (.func 205) #[] #[] := hv 4 (by omega)
            obtain rfl : v5 = .slice (some ⟨g, 0, none⟩) m c := hv 5 (by omega)
            obtain rfl : v6 = .int .i64 ((t : Int) + 1) := hv 6 (by omega)
            obtain rfl : v7 = .pointer (some ⟨g, (t + 1) * 2, none⟩) := hv 7 (by omega)
            obtain rfl : v8 = .agg #[.slice Ax k cx, .int .u64 (vx : Nat)] := hv 8 (by omega)
            obtain rfl : v9 = .slice (some ⟨g, 0, none⟩) m c := hv 9 (by omega)
            obtain rfl : v10 = .int .i64 ((t : Int) + 1) := hv 10 (by omega)
            obtain rfl : v11 = .int .i64 (t : Nat) := hv 11 (by omega)
            obtain rfl : v12 = .pointer (some ⟨g, t * 2, none⟩) := hv 12 (by omega)
            obtain rfl : v13 = .agg #[.slice Ay k cy, .int .u64 (vy : Nat)] := hv 13 (by omega)
            obtain rfl : v14 = .int .i64 z := hv 14 (by omega)
            obtain rfl : v15 = .bool zb := hv 15 (by omega)
            clear hv
            simp only [putAll, List.take_succ_cons, List.take_zero, List.drop_succ_cons, List.drop_zero, Act.put, List.setIfInBounds_toArray, List.set_cons_succ, List.set_cons_zero]
            have HN4 := Lib.hid (HN.out.step (show Below wr.heap.size wr w3 from hb3))
            have HS3 := Lib.hid (show Below wr.heap.size wr w3 from hb3)
            replace k0 := Below.keeps hb3 _ _ k0
            replace k1 := Below.keeps hb3 _ _ k1
            replace q0 := Below.keeps hb3 _ _ q0
            replace q1 := Below.keeps hb3 _ _ q1
            replace hgl := Nat.lt_of_lt_of_le hgl hb3.size
            clear hb3 hzb hthaw
            cases zb with
            | false =>
              have DN := Lib.hid (HN4.out.done (fun u hu => by
                have hyx : pkey py ≤ pkey px := by have h1 := HZ.out; have h2 := of_decide_eq_false HZB.out; omega
                rcases List.mem_append.1 hu with hu | hu
                · have h3 := (List.pairwise_append.1 (List.pairwise_append.1 HN4.out.srt).1).2.2 u hu _ (List.mem_singleton.2 rfl)
                  exact Nat.le_trans h3 hyx
                · obtain rfl := List.mem_singleton.1 hu
                  exact hyx))
              clear k0 k1 q0 q1 hgl
              go_wp2_with fail
              go_roundw
              case rel =>
                obtain ⟨d1, d2, d3, d4, d5⟩ := DN.out
                exact ⟨_, R, by rw [HW.out]; congr 2; have e1 := HI.out.2.1; have e2 := HIE.out; have e3 := HD.out.2.1; simp only [List.length_cons] at e1 e3 d4; omega, d5, d4, d1, d2, d3⟩
              case measure => rw [intOf_of' HW.out, intOf_nat]; have e3 := HD.out.2.1; omega
            | true =>
              have hthaw : ∀ q, w3.frozen? ⟨g, q, none⟩ = false := fun q => HN4.out.pr.thaw q
              go_wp2_with fail
              go_region
              go_wp2_with fail
              go_roundw
              case rel =>
                refine ⟨P', (⟨.slice Ay py.length cy, ⟨py, vy⟩⟩ : Pe) :: Q, by first | (rw [hwt]; congr 2; have := HJT.out; omega) | (congr 2; have := HJT.out; omega), HN4.out.down (show pkey px < pkey py from HZ.out.1 (of_decide_eq_true HZB.out)) ?_⟩
                have hp3 := HP2.out.1.step HS3.out
                have hT : t + 1 < ((A ++ P') ++ (⟨.slice Ay py.length cy, ⟨py, vy⟩⟩ : Pe) :: (⟨.slice Ax px.length cx, ⟨px, vx⟩⟩ : Pe) :: (Q ++ (R ++ B))).length := by rw [← HP2.out.2.1]; simp; omega
                have h5 := (hp3.set hT (⟨.slice Ay py.length cy, ⟨py, vy⟩⟩ : Pe) HP2.out.2.2.2).set (j := t) (by rw [List.length_set]; omega) (⟨.slice Ax px.length cx, ⟨px, vx⟩⟩ : Pe) HP2.out.2.2.1
                have h6 := swap_mid (A ++ P') (⟨.slice Ay py.length cy, ⟨py, vy⟩⟩ : Pe) (⟨.slice Ax px.length cx, ⟨px, vx⟩⟩ : Pe) (Q ++ (R ++ B))
                rw [HP2.out.2.1] at h6
                rw [h6] at h5
                have h7 := h5.step (Below.drew (Below.refl _ _))
                simp only [HKK.out.1, HKK.out.2] at h7 ⊢
                simpa using h7
              case measure => first | (rw [intOf_of' hwt, intOf_of' rfl]; omega) | (rw [intOf_of' rfl, intOf_of' rfl]; omega) | (simp [intOf]; omega)
    · obtain rfl : S2 = [] := by
        cases S2 with
        | nil => rfl
        | cons x R => exact absurd (hbi.2.2 (by simp)) hib
      have h3 : ¬ (i : Int) < (b : Int) := by omega
      clear h1 h2 hpr hsrt hstb hi hbi
      go_wp2_with fail
      go_end0
      exact ⟨S1, rfl, by simpa using HI.out.2.2.1, by have := HI.out.2.1; simpa using this, by simpa using HI.out.2.2.2.2, HI.out.2.2.2.1⟩
end Go.Proofs.YtdkomhmciihkiaaGreat
/-! SrtC -/
namespace Go.Proofs.YtdkomhmciihkiaaGreat
open Go.RowKit
set_option linter.unusedVariables false
set_option linter.unusedSimpArgs false
set_option maxRecDepth 100000

theorem eclone_any (w : World) (l : List En) (v : Value) (hv : RdE w v l) (hl : l.length ≤ 1000) : Calls Tryz.prog 203 #[v] w fun e w' => ∃ v', e = .returned v' ∧ OwnE w w' v' l ∧ Below w.heap.size w w' := by
  have HS := Lib.hid (fun w' (hb : Below w.heap.size w w') => hv.src hb)
  have HL := Lib.hid hl
  obtain ⟨A, c, rfl, ⟨h1, h2, h3⟩, hx⟩ := hv
  cases A with
  | none =>
    have hl0 : l = [] := by
      cases l with
      | nil => rfl
      | cons x l => obtain ⟨b, o, h, _⟩ := hx (by simp); cases h
    subst hl0
    have he : ∀ w : World, (binOp .eql 44 (.slice none 0 c) (.slice none 0 0)).run Tryz.prog w = .ok (.bool true) w := fun _ => rfl
    clear h1 h2 h3 hx hl
    simp only [List.length_nil]
    go_enter Tryz.func203, Tryz.ntmps203
    go_wp2_with fail
    go_ret
    exact ⟨_, rfl, OwnE.nil _ _, Below.refl _ _⟩
  | some a =>
    have he : ∀ w : World, (binOp .eql 44 (.slice (some a) l.length c) (.slice none 0 0)).run Tryz.prog w = .ok (.bool false) w := fun _ => rfl
    clear h1 h2 h3 hx hl
    go_enter Tryz.func203, Tryz.ntmps203
    go_wp2_with (at_builtin; refine wpList_append_E rfl (.tmp 5) (.tmp 6) rfl w [] l (OwnE.lit (Nat.le_refl _) rfl) (HS.out _ (by repeat (first | exact Below.refl _ _ | (refine Below.drew ?_) | (refine below_drewN' ?_ _) | (refine below_alloc' ?_ _) | (refine Below.setCell ?_ (by first | exact Nat.le_refl _ | (simp; done) | (simp; omega)) _)))) (by repeat (first | exact Below.refl _ _ | (refine Below.drew ?_) | (refine below_drewN' ?_ _) | (refine below_alloc' ?_ _) | (refine Below.setCell ?_ (by first | exact Nat.le_refl _ | (simp; done) | (simp; omega)) _))) (by have := HL.out; simp; omega) ?_)
    intro v' w' hown hb
    have HO := Lib.hid (And.intro hown hb)
    clear hown hb
    go_wp2_with fail
    go_ret
    exact ⟨_, rfl, HO.out.1, HO.out.2⟩
theorem cellsE_pe {w : World} {cs : List Value} {l : List En} (h : CellsE w cs l) : ∃ xs : List Pe, xs.map (·.2) = l ∧ (∀ x ∈ xs, RdU w x.1 (pti x.2.p)) ∧ cs.length = xs.length * 2 ∧
    ∀ j (hj : j < xs.length), cs[j * 2]? = some xs[j].1 ∧ cs[j * 2 + 1]? = some (.int .u64 (xs[j].2.v : Nat)) := by
  induction l generalizing cs with
  | nil => obtain rfl : cs = [] := h; exact ⟨[], rfl, by simp, rfl, fun j hj => by simp at hj⟩
  | cons e l ih =>
    obtain ⟨u, ds, rfl, hu, h⟩ := h
    obtain ⟨xs, h1, h2, h3, h4⟩ := ih h
    refine ⟨(u, e) :: xs, by simp [h1], ?_, by simp [h3]; omega, ?_⟩
    · intro x hx
      rcases List.mem_cons.1 hx with rfl | hx
      · exact hu
      · exact h2 x hx
    · intro j hj
      cases j with
      | zero => simp
      | succ j =>
        obtain ⟨a, b⟩ := h4 j (by simpa using hj)
        refine ⟨?_, ?_⟩
        · rw [show (j + 1) * 2 = j * 2 + 1 + 1 by omega]; simpa using a
        · rw [show (j + 1) * 2 + 1 = j * 2 + 1 + 1 + 1 by omega]; simpa using b
theorem OwnE.pr {W w : World} {v : Value} {l : List En} (h : OwnE W w v l) (hb : Below W.heap.size W w) (hne : l ≠ []) : ∃ g n xs, v = .slice (some ⟨g, 0, none⟩) l.length n ∧ PR W w g n xs ∧ xs.map (·.2) = l := by
  obtain ⟨cs, ⟨h1, h2⟩, h3⟩ := h
  obtain ⟨xs, e1, e2, e3, e4⟩ := cellsE_pe h3
  have hlen : xs.length = l.length := by rw [← e1]; simp
  rcases h2 with ⟨_, h0⟩ | ⟨g, cap, cur, rfl, hg, hh, hcap, hm, hs, ht⟩
  · exact absurd (List.length_eq_zero_iff.1 h0) hne
  · refine ⟨g, cap, xs, rfl, ⟨⟨cur, hh, hs, by omega, fun j hj => ?_⟩, e2, hg, hb⟩, e1⟩
    obtain ⟨a, b⟩ := e4 j hj
    have key : ∀ i x, cs[i]? = some x → cur[i]? = some x := fun i x hi => by
      rw [← ht] at hi
      have hil := (List.getElem?_eq_some_iff.1 hi).1
      rw [List.length_take] at hil
      rw [List.getElem?_take_of_lt (by omega), Array.getElem?_toList] at hi
      exact hi
    exact ⟨key _ _ a, key _ _ b⟩
/-- the stable sort does what it is to do, for rows up to N -/
def SortR (W0 : World) (g n : Nat) (xs : List Pe) (e : Ending) (w' : World) : Prop := ∃ ys, e = .returned (.tuple #[]) ∧ PR W0 w' g n ys ∧ ys.length = xs.length ∧ Stb xs ys ∧ Srt ys
def SortOk (N : Nat) : Prop := ∀ (W0 w : World) (g n c k : Nat) (xs : List Pe), xs.length ≤ N → xs ≠ [] → 1 ≤ k → k ≤ 16 → PR W0 w g n xs → (∀ x ∈ xs, x.2.p.length = k ∧ ∀ q ∈ x.2.p, q < 2 ^ 64) →
  Calls Tryz.prog 204 #[.slice (some ⟨g, 0, none⟩) xs.length c, .func (.func 205) #[] #[]] w fun e w' => SortR W0 g n xs e w'
end Go.Proofs.YtdkomhmciihkiaaGreat
/-! SrtD -/
namespace Go.Proofs.YtdkomhmciihkiaaGreat
open Go.RowKit
set_option linter.unusedVariables false
set_option linter.unusedSimpArgs false
set_option maxRecDepth 100000

theorem PR.room {W0 w : World} {g n : Nat} {xs : List Pe} (h : PR W0 w g n xs) (j : Nat) (hj : j < n * 2) : (w.cell? ⟨g, j, none⟩).isSome = true := by
  obtain ⟨cur, h1, h2, _⟩ := h.cells
  simp [World.cell?, h1, h2, hj]
theorem wpList_append_room {W0 w : World} {ops : Array Oper} {rest : List Oper} {o : Oper} {a : Act} {Q : Exit → Act → World → Prop} (hgd : o.guard = none) (s x : Operand)
    (ho : o.op = .call { callee := .builtin .append, args := #[s, x], argTypes := #[44, 44] }) (g n r b2 cc : Nat) (xs : List Pe) (u : Value) (v : Nat) (hpr : PR W0 w g n xs) (hr : r < n)
    (hs : a.eval s = .slice (some ⟨g, 0, none⟩) r n) (hx : a.eval x = .slice (some ⟨b2, 0, none⟩) 1 cc) (h0 : w.cell? ⟨b2, 0, none⟩ = some u) (h1 : w.cell? ⟨b2, 1, none⟩ = some (.int .u64 (v : Nat))) (hu : u.oneCell' = true)
    (h : wpList Tryz.prog ops Q rest (a.put o.dst (.slice (some ⟨g, 0, none⟩) (r + 1) n)) ((w.setCell ⟨g, r * 2, none⟩ u).setCell ⟨g, r * 2 + 1, none⟩ (.int .u64 (v : Nat)))) : wpList Tryz.prog ops Q (o :: rest) a w := by
  obtain ⟨i, hi, hz0, hz1, hz2⟩ := info_parts entryInfo
  have hrun := run_append_room_cells (P := Tryz.prog) w 44 o.type 35 i Tryz.underlying44 hi g 0 r n ⟨b2, 0, none⟩ 1 cc [u, .int .u64 (v : Nat)] (by rw [hz1]; rfl) (fun j y hj => by
    match j with
    | 0 => simp at hj; subst hj; simpa [Addr.add] using h0
    | 1 => simp at hj; subst hj; simpa [Addr.add] using h1
    | j + 2 => simp at hj) (fun y hy => by
    rcases List.mem_cons.1 hy with rfl | hy
    · exact hu
    · obtain rfl := List.mem_singleton.1 hy; rfl) (by omega) (fun j hj => by
    rw [hz1]; exact hpr.room _ (by simp at hj; omega)) (fun j hj => by rw [hz1]; exact hpr.thaw _)
  rw [hz1, Nat.zero_add] at hrun
  rw [← hs, ← hx] at hrun
  exact wpList_append_run hgd s x ho hrun h
theorem isort_nil (w : World) (A : Option Addr) (c : Nat) : Calls Tryz.prog 255 #[.slice A 0 c, .int .i64 0, .int .i64 0, .func (.func 205) #[] #[]] w fun e w' => e = .returned (.tuple #[]) ∧ w' = w := by
  go_enter Tryz.func255, Tryz.ntmps255
  go_wp2_with fail
  go_loopw [8, 9] (fun iv _ wr => iv = .int .i64 1 ∧ wr = w) (fun _ _ _ => 0)
  case atStart => exact ⟨rfl, rfl⟩
  case round =>
    obtain ⟨rfl, hw⟩ := hrel
    subst hw
    go_wp2_with fail
    go_end0
    exact ⟨rfl, rfl⟩
theorem stc_nil (w : World) (A : Option Addr) (c : Nat) : Calls Tryz.prog 244 #[.slice A 0 c, .int .i64 0, .func (.func 205) #[] #[]] w fun e w' => e = .returned (.tuple #[]) ∧ w' = w := by
  have HI := Lib.hid (isort_nil w A c)
  go_enter Tryz.func244, Tryz.ntmps244
  go_wp2_with fail
  go_loopw [7, 8] (fun av bv wr => av = .int .i64 0 ∧ bv = .int .i64 20 ∧ wr = w) (fun _ _ _ => 0)
  case atStart => exact ⟨rfl, rfl, rfl⟩
  case round =>
    obtain ⟨rfl, rfl, hw⟩ := hrel
    subst hw
    go_wp2_with fail
    refine HI.out.mono ?_
    rintro e w2 ⟨rfl, hw2⟩
    obtain rfl := hw2.symm
    go_wp2_with fail
    go_loopw [6, 7, 8, 9] (fun bv _ _ _ wr8 => bv = .int .i64 20 ∧ wr8 = wr) (fun _ _ _ _ _ => 0)
    case atStart => exact ⟨rfl, rfl⟩
    case round =>
      obtain ⟨rfl, hw⟩ := hrel
      subst hw
      go_wp2_with fail
      go_end0
      exact ⟨rfl, rfl⟩
theorem stb_nil (w : World) (A : Option Addr) (c : Nat) : Calls Tryz.prog 204 #[.slice A 0 c, .func (.func 205) #[] #[]] w fun e w' => e = .returned (.tuple #[]) ∧ w' = w := by
  have HI := Lib.hid (stc_nil w A c)
  go_enter Tryz.func204, Tryz.ntmps204
  go_wp2_with fail
  refine HI.out.mono ?_
  rintro e w2 ⟨rfl, hw2⟩
  obtain rfl := hw2.symm
  go_wp2_with fail
  go_end0
  exact ⟨rfl, rfl⟩
/-- what stands ahead of a round: r are kept, from j on the row is as it was sorted -/
structure SrI (W0 wr : World) (g n : Nat) (ys zs : List Pe) (j r : Nat) : Prop where
  pr : PR W0 wr g n zs
  len : zs.length = ys.length
  rj : r ≤ j
  jm : j ≤ ys.length
  rest : ∀ i (h : i < ys.length) (h' : i < zs.length), j ≤ i → zs[i] = ys[i]
  out : zs.take r ++ lastsL (ys.drop j) = lastsL ys
theorem SrI.skip {W0 wr w' : World} {g n : Nat} {ys zs : List Pe} {j r : Nat} (h : SrI W0 wr g n ys zs j r) (hb : Below wr.heap.size wr w') (hj : j + 1 < ys.length) (he : ek (ys[j]'(by omega)) = ek ys[j + 1]) : SrI W0 w' g n ys zs (j + 1) r := by
  refine ⟨h.pr.step hb, h.len, by have := h.rj; omega, by omega, fun i h1 h2 h3 => h.rest i h1 h2 (by omega), ?_⟩
  rw [← h.out]
  congr 1
  rw [← List.getElem_cons_drop (show j < ys.length by omega), ← List.getElem_cons_drop hj]
  conv => rhs; unfold lastsL
  rw [if_pos he]
theorem SrI.take {W0 wr w' : World} {g n : Nat} {ys zs : List Pe} {j r : Nat} (h : SrI W0 wr g n ys zs j r) (hj : j < ys.length) (hne : ∀ h : j + 1 < ys.length, ek ys[j] ≠ ek (ys[j + 1]'h)) (hpr : PR W0 w' g n (zs.set r ys[j])) : SrI W0 w' g n ys (zs.set r ys[j]) (j + 1) (r + 1) := by
  have hrz : r < zs.length := by have := h.rj; have := h.len; omega
  refine ⟨hpr, by rw [List.length_set]; exact h.len, by have := h.rj; omega, by omega, fun i h1 h2 h3 => ?_, ?_⟩
  · rw [List.length_set] at h2
    rw [List.getElem_set_ne (by have := h.rj; omega)]
    exact h.rest i h1 h2 (by omega)
  · rw [← h.out, List.take_add_one, List.getElem?_set_self hrz]
    have e1 : (zs.set r ys[j]).take r = zs.take r := by rw [List.take_set_of_le (Nat.le_refl _)]
    rw [e1, List.append_assoc]
    congr 1
    rw [← List.getElem_cons_drop hj]
    by_cases hlast : j + 1 < ys.length
    · rw [← List.getElem_cons_drop hlast]
      conv => rhs; unfold lastsL
      rw [if_neg (hne hlast)]
      rfl
    · rw [List.drop_eq_nil_of_le (by omega)]
      rfl
theorem PR.rd {W0 w : World} {g n r : Nat} {zs : List Pe} {l : List En} (h : PR W0 w g n zs) (hr : r ≤ zs.length) (hn : n ≤ maxLen) (hl : (zs.take r).map (·.2) = l) : RdE w (.slice (some ⟨g, 0, none⟩) r n) l := by
  subst hl
  have hlen : ((zs.take r).map (·.2)).length = r := by simp; omega
  refine ⟨some ⟨g, 0, none⟩, n, by rw [hlen], ⟨by rw [hlen]; obtain ⟨_, _, _, h3, _⟩ := h.cells; omega, hn, fun _ => ⟨g, 0, rfl⟩⟩, fun _ => ⟨g, 0, rfl, fun q hq => ?_⟩⟩
  have hq' := hq
  rw [hlen] at hq'
  obtain ⟨a, b⟩ := h.at' q (by omega)
  have e : ((zs.take r).map (·.2))[q]'hq = (zs[q]'(by omega)).2 := by simp
  rw [e, Nat.zero_add]
  exact ⟨_, a, (h.pts _ (List.getElem_mem _)).below h.bel, b⟩
/-- a row of entries is handed back -/
def SrtR (W : World) (l : List En) (e : Ending) (w' : World) : Prop := ∃ v, e = .returned v ∧ RdE w' v l ∧ Below W.heap.size W w'
set_option maxHeartbeats 4000000 in
theorem sorted_any (N : Nat) (hS : SortOk N) (w : World) (k : Nat) (l : List En) (v : Value) (hv : RdE w v l) (hlN : l.length ≤ N) (hl : l.length ≤ 1000) (k1 : 1 ≤ k) (k16 : k ≤ 16) (hk : ∀ e ∈ l, e.p.length = k ∧ ∀ q ∈ e.p, q < 2 ^ 64) :
    Calls Tryz.prog 147 #[v] w fun e w' => SrtR w (putsL [] l) e w' := by
  have HC := Lib.hid (eclone_any w l v hv hl)
  obtain ⟨A0, c0, rfl, zz⟩ := hv
  clear zz
  by_cases hne : l = []
  · subst hne
    clear hk hl hlN hS
    go_enter Tryz.func147, Tryz.ntmps147
    go_wp2_with fail
    refine HC.out.mono ?_
    rintro e w1 ⟨v1, rfl, ho, hb⟩
    have hr := ho.rd hb
    obtain ⟨A1, c1, e1, hcc, _⟩ := ho.rd hb
    subst e1
    have HR := Lib.hid (And.intro hr (And.intro hcc hb))
    simp only [List.length_nil] at *
    clear ho hr hb hcc
    go_wp2_with fail
    refine (stb_nil w1 A1 c1).mono ?_
    rintro e w2 ⟨rfl, hw2⟩
    obtain rfl := hw2.symm
    clear hw2
    have h0c : (0 : Int) ≤ (c1 : Int) := by omega
    go_wp2_with fail
    go_loopw [4, 5, 6, 15] (fun ov _ _ iv wr => ov = .slice A1 0 c1 ∧ iv = .int .i64 0 ∧ wr = w1) (fun _ _ _ _ _ => 0)
    case atStart => exact ⟨rfl, rfl, rfl⟩
    case round =>
      obtain ⟨rfl, rfl, hw⟩ := hrel
      subst hw
      go_wp2_with fail
      go_ret
      exact ⟨_, rfl, ⟨A1, c1, rfl, HR.out.2.1, fun h => absurd h (by simp [putsL])⟩, HR.out.2.2⟩
  · have hls : 0 < l.length := List.length_pos_iff.2 hne
    have HD := Lib.hid (And.intro hne (And.intro hlN (And.intro hl (And.intro k1 (And.intro k16 hk)))))
    clear hk hl hlN k1 k16
    go_enter Tryz.func147, Tryz.ntmps147
    go_wp2_with fail
    refine HC.out.mono ?_
    rintro e w1 ⟨v1, rfl, ho, hb⟩
    obtain ⟨g, n, xs, rfl, hpr, hxl⟩ := ho.pr hb HD.out.1
    obtain ⟨_, _, e9, ⟨hcc1, hcc2, _⟩, _⟩ := ho.rd hb
    have hnm : n ≤ maxLen := by simp only [Value.slice.injEq] at e9; have := e9.2.2; omega
    have hlen : l.length = xs.length := by rw [← hxl]; simp
    have hxk : ∀ x ∈ xs, x.2.p.length = k ∧ ∀ q ∈ x.2.p, q < 2 ^ 64 := fun x hx => HD.out.2.2.2.2.2 x.2 (by rw [← hxl]; exact List.mem_map_of_mem hx)
    have HS := Lib.hid (hS w w1 g n n k xs (by have := HD.out.2.1; omega) (by intro h; rw [h, List.length_nil] at hlen; omega) HD.out.2.2.2.1 HD.out.2.2.2.2.1 hpr hxk)
    have HX := Lib.hid (And.intro hxl (And.intro hxk hnm))
    have HXL := Lib.hid (show xs.length ≤ 1000 by rw [← hlen]; exact HD.out.2.2.1)
    rw [hlen] at *
    clear ho hb hpr hxl hxk e9 hcc1 hcc2 hnm hlen
    go_wp2_with fail
    refine HS.out.mono ?_
    rintro e w2 ⟨ys, rfl, hp2, hyl, hst, hsr⟩
    have HY := Lib.hid (And.intro hp2 (And.intro hyl (And.intro hst hsr)))
    have hyk : ∀ y ∈ ys, y.2.p.length = k ∧ ∀ q ∈ y.2.p, q < 2 ^ 64 := fun y hy => HX.out.2.1 y (hst.mem.2 hy)
    have HYK := Lib.hid hyk
    obtain ⟨m, hm⟩ : ∃ m, xs.length = m := ⟨_, rfl⟩
    have HLN := Lib.hid (And.intro (hyl.trans hm) (show m ≤ 1000 by rw [← hm]; exact HXL.out))
    rw [hm] at *
    clear hp2 hst hsr hyk hyl hm HS
    have h0c : (0 : Int) ≤ (n : Int) := by omega
    go_wp2_with fail
    go_loopw [4, 5, 6, 15] (fun ov _ _ iv wr => ∃ (zs : List Pe) (j r : Nat), ov = .slice (some ⟨g, 0, none⟩) r n ∧ iv = .int .i64 (j : Nat) ∧ SrI w wr g n ys zs j r) (fun _ _ _ iv _ => m - (intOf iv).toNat)
    case atStart => exact ⟨ys, 0, 0, rfl, rfl, ⟨HY.out.1, rfl, Nat.le_refl _, Nat.zero_le _, fun i h1 h2 _ => rfl, by simp⟩⟩
    case round =>
      obtain ⟨zs, j, r, rfl, rfl, hI⟩ := hrel
      have HI := Lib.hid hI
      have hym : ys.length = m := HLN.out.1
      have hzm : zs.length = m := hI.len.trans hym
      have hm1000 := HLN.out.2
      by_cases hj : j < m
      · have hjz : j < zs.length := by omega
        have hjy : j < ys.length := by omega
        obtain ⟨q0, q1⟩ := hI.pr.at' j hjz
        have hzj := hI.rest j hjy hjz (Nat.le_refl _)
        have hmy : ys[j] ∈ ys := List.getElem_mem hjy
        have rux := hI.pr.pts zs[j] (List.getElem_mem hjz)
        rw [hzj] at q0 q1 rux
        obtain ⟨kx, ox⟩ := HYK.out _ hmy
        obtain ⟨X, hX⟩ : ∃ X, ys[j] = X := ⟨_, rfl⟩
        rw [hX] at q0 q1 rux kx ox
        obtain ⟨ux, px, vx⟩ := X
        simp only at q0 q1 rux kx ox
        have HRX := Lib.hid (And.intro hX (And.intro rux (And.intro kx ox)))
        obtain ⟨Ax, cx, hux, _⟩ := RdU.point rux
        rw [kx] at hux
        have HUX := Lib.hid hux
        rw [hux] at q0
        have hj1 : (0 : Int) ≤ (j : Int) := by omega
        have hj2 : (j : Int) < (m : Int) := by omega
        have hj3 : (0 : Int) ≤ (j : Int) + 1 := by omega
        have hgl := hI.pr.lt
        have hwj2 : IntKind.i64.wrap ((j : Int) + 1) = (j : Int) + 1 := by rw [IntKind.wrap_i64]; omega
        have hwj : wrap64 ((j : Int) + 1) = (j : Int) + 1 := by unfold wrap64; omega
        have HBI := Lib.hid (And.intro hj1 (And.intro hj2 (And.intro hwj hwj2)))
        clear hI hjz hzj hmy rux kx ox hX hux
        go_wp2_with fail
        obtain ⟨W, hW⟩ : ∃ W, wr.alloc (Obj.cells #[Value.slice Ax k cx, Value.int IntKind.u64 (vx : Nat)] 35) = W := ⟨_, rfl⟩
        have HBW := Lib.hid (show Below wr.heap.size wr W from hW ▸ below_alloc' (Below.refl _ _) _)
        obtain ⟨E, hE⟩ : ∃ E, wr.heap.size = E := ⟨_, rfl⟩
        have e0 : W.cell? ⟨E, 0, none⟩ = some (.slice Ax k cx) := by rw [← hW, ← hE]; simp only [World.cell?, heap_alloc_new]; rfl
        have e1 : W.cell? ⟨E, 1, none⟩ = some (.int .u64 (vx : Nat)) := by rw [← hW, ← hE]; simp only [World.cell?, heap_alloc_new]; rfl
        have hEl : E < W.heap.size := by rw [← hW, ← hE]; simp
        rw [hW, hE]
        replace q0 := Below.keeps HBW.out _ _ q0
        replace q1 := Below.keeps HBW.out _ _ q1
        have HGW := Lib.hid (show g < W.heap.size from Nat.lt_of_lt_of_le hgl HBW.out.size)
        have HRN := Lib.hid (show r < n by have := HI.out.rj; obtain ⟨_, _, _, h3, _⟩ := HI.out.pr.cells; have := HLN.out.1; have := HI.out.len; omega)
        clear hW hE hgl q0 q1
        by_cases hj5 : j + 1 < m
        · have hjz2 : j + 1 < zs.length := by omega
          have hjy2 : j + 1 < ys.length := by omega
          obtain ⟨k0, k1⟩ := HI.out.pr.at' (j + 1) hjz2
          have hzj := HI.out.rest (j + 1) hjy2 hjz2 (by omega)
          have ruy := HI.out.pr.pts zs[j + 1] (List.getElem_mem hjz2)
          rw [hzj] at k0 k1 ruy
          obtain ⟨ky, oy⟩ := HYK.out _ (List.getElem_mem hjy2)
          obtain ⟨Y, hY⟩ : ∃ Y, ys[j + 1] = Y := ⟨_, rfl⟩
          rw [hY] at k0 k1 ruy ky oy
          obtain ⟨uy, py, vy⟩ := Y
          simp only at k0 k1 ruy ky oy
          have HRY := Lib.hid (And.intro hY ky)
          have HOR := Lib.hid (fun W2 (hb2 : Below W.heap.size W W2) => order_any W2 px py ux uy vx vy (HRX.out.2.1.below (HI.out.pr.bel.trans ((below_trans HBW.out hb2).mono HI.out.pr.bel.size))) (ruy.below (HI.out.pr.bel.trans ((below_trans HBW.out hb2).mono HI.out.pr.bel.size))) (by rw [HRX.out.2.2.1, ky]) (by rw [HRX.out.2.2.1]; exact HD.out.2.2.2.1) (by rw [HRX.out.2.2.1]; exact HD.out.2.2.2.2.1) HRX.out.2.2.2 oy)
          obtain ⟨Ay, cy, huy, _⟩ := RdU.point ruy
          rw [ky] at huy
          rw [HUX.out, huy] at HOR
          rw [huy] at k0
          replace k0 := Below.keeps HBW.out _ _ k0
          replace k1 := Below.keeps HBW.out _ _ k1
          have hgl := HGW.out
          obtain ⟨z, hz⟩ : ∃ z, Zb.cmp px py = z := ⟨_, rfl⟩
          rw [hz] at HOR
          have HZ := Lib.hid (show z = 0 ↔ pkey px = pkey py from hz ▸ cmp_zero px py)
          obtain ⟨zb, hzb⟩ : ∃ zb, (z == 0) = zb := ⟨_, rfl⟩
          have HZB := Lib.hid (show zb = true ↔ z = 0 by rw [← hzb]; exact beq_iff_eq)
          have hj4 : (j : Int) + 1 < (m : Int) := by omega
          clear hz hzj ruy ky oy hY huy hym hzm hm1000
          refine wp_region_vals 14 [fun z9 _ => z9 = .int .i64 (j : Nat),
            fun z9 _ => z9 = .int .i64 ((j : Int) + 1),
            fun z9 _ => z9 = .slice (some ⟨g, 0, none⟩) m n,
            fun z9 _ => z9 = .int .i64 (m : Nat),
            fun z9 _ => z9 = .bool true,
            fun z9 _ => z9 = .bool true,
            fun z9 _ => z9 = .agg #[.slice Ax k cx, .int .u64 (vx : Nat)],
            fun z9 _ => z9 = .slice (some ⟨g, 0, none⟩) m n,
            fun z9 _ => z9 = .int .i64 (j : Nat),
            fun z9 _ => z9 = .int .i64 ((j : Int) + 1),
            fun z9 _ => z9 = .pointer (some ⟨g, (j + 1) * 2, none⟩),
            fun z9 _ => z9 = .agg #[.slice Ay k cy, .int .u64 (vy : Nat)],
            fun z9 _ => z9 = .int .i64 z,
            fun z9 _ => z9 = .bool zb]
            (by kernel_rfl) (by kernel_rfl) (by kernel_rfl) (by kernel_rfl) ?_ ?_ ?_
          · intro V hV v w1 w2 h hb
            simp only [List.mem_cons, List.not_mem_nil, or_false] at hV
            rcases hV with rfl | rfl | rfl | rfl | rfl | rfl | rfl | rfl | rfl | rfl | rfl | rfl | rfl | rfl
            all_goals first | exact h | (exact h)
          · intro iq oq hiq hoq
            match iq, hiq with
            | 0, _ =>
            obtain rfl := Option.some.inj hoq
            intro a1 w1 K hk hK
            have e5 : a1.tmps.getD 5 undef = .int .i64 (j : Nat) := hk.same 5 (by simp)
            simp [Region.wanted, Oper.wp, Act.eval, go_sem, e5, e0, e1, k0, k1, hj1, hj2, hj3, hj4, hj5, hEl, hgl, hzb, hwj, hwj2]
            exact hK _ _ (Below.refl _ _) rfl
            | 1, _ =>
            obtain rfl := Option.some.inj hoq
            intro a1 w1 K hk hK
            have d20 : a1.tmps.getD 20 undef = .int .i64 (j : Nat) := hk.deps ⟨0, .data⟩ (by simp) rfl _ _ rfl rfl
            simp [Region.wanted, Oper.wp, Act.eval, go_sem, d20, e0, e1, k0, k1, hj1, hj2, hj3, hj4, hj5, hEl, hgl, hzb, hwj, hwj2]
            exact hK _ _ (Below.refl _ _) rfl
            | 2, _ =>
            obtain rfl := Option.some.inj hoq
            intro a1 w1 K hk hK
            have e3 : a1.tmps.getD 3 undef = .slice (some ⟨g, 0, none⟩) m n := hk.same 3 (by simp)
            simp [Region.wanted, Oper.wp, Act.eval, go_sem, e3, e0, e1, k0, k1, hj1, hj2, hj3, hj4, hj5, hEl, hgl, hzb, hwj, hwj2]
            exact hK _ _ (Below.refl _ _) rfl
            | 3, _ =>
            obtain rfl := Option.some.inj hoq
            intro a1 w1 K hk hK
            have d22 : a1.tmps.getD 22 undef = .slice (some ⟨g, 0, none⟩) m n := hk.deps ⟨2, .data⟩ (by simp) rfl _ _ rfl rfl
            simp [Region.wanted, Oper.wp, Act.eval, go_sem, d22, e0, e1, k0, k1, hj1, hj2, hj3, hj4, hj5, hEl, hgl, hzb, hwj, hwj2]
            exact hK _ _ (Below.refl _ _) rfl
            | 4, _ =>
            obtain rfl := Option.some.inj hoq
            intro a1 w1 K hk hK
            have d21 : a1.tmps.getD 21 undef = .int .i64 ((j : Int) + 1) := hk.deps ⟨1, .data⟩ (by simp) rfl _ _ rfl rfl
            have d23 : a1.tmps.getD 23 undef = .int .i64 (m : Nat) := hk.deps ⟨3, .data⟩ (by simp) rfl _ _ rfl rfl
            simp [Region.wanted, Oper.wp, Act.eval, go_sem, d21, d23, e0, e1, k0, k1, hj1, hj2, hj3, hj4, hj5, hEl, hgl, hzb, hwj, hwj2]
            exact hK _ _ (Below.refl _ _) rfl
            | 5, _ =>
            obtain rfl := Option.some.inj hoq
            intro a1 w1 K hk hK
            have d24 : a1.tmps.getD 24 undef = .bool true := hk.deps ⟨4, .data⟩ (by simp) rfl _ _ rfl rfl
            simp [Region.wanted, Oper.wp, Act.eval, go_sem, d24, e0, e1, k0, k1, hj1, hj2, hj3, hj4, hj5, hEl, hgl, hzb, hwj, hwj2]
            exact hK _ _ (Below.refl _ _) rfl
            | 6, _ =>
            obtain rfl := Option.some.inj hoq
            intro a1 w1 K hk hK
            have e6 : a1.tmps.getD 6 undef = .pointer (some ⟨E, 0, none⟩) := hk.same 6 (by simp)
            have gd : a1.tmps[25]? = some (.bool true) := getD_bool (hk.deps ⟨5, .guard⟩ (by simp) rfl _ _ rfl rfl)
            have c0 : w1.cell? ⟨E, 0, none⟩ = some (.slice Ax k cx) := Below.keeps hk.ext _ _ (by simp [go_sem, e0, e1, k0, k1, hj1, hj2, hj3, hj4, hj5, hEl, hgl, hzb, hwj, hwj2])
            have c1 : w1.cell? ⟨E, 1, none⟩ = some (.int .u64 (vx : Nat)) := Below.keeps hk.ext _ _ (by simp [go_sem, e0, e1, k0, k1, hj1, hj2, hj3, hj4, hj5, hEl, hgl, hzb, hwj, hwj2])
            have c2 : w1.cell? ⟨g, (j + 1) * 2, none⟩ = some (.slice Ay k cy) := Below.keeps hk.ext _ _ (by simp [go_sem, e0, e1, k0, k1, hj1, hj2, hj3, hj4, hj5, hEl, hgl, hzb, hwj, hwj2])
            have c3 : w1.cell? ⟨g, (j + 1) * 2 + 1, none⟩ = some (.int .u64 (vy : Nat)) := Below.keeps hk.ext _ _ (by simp [go_sem, e0, e1, k0, k1, hj1, hj2, hj3, hj4, hj5, hEl, hgl, hzb, hwj, hwj2])
            simp [Region.wanted, Oper.wp, Act.eval, go_sem, e6, gd, yielded, c0, c1, c2, c3, e0, e1, k0, k1, hj1, hj2, hj3, hj4, hj5, hEl, hgl, hzb, hwj, hwj2]
            exact hK _ _ (Below.refl _ _) rfl
            | 7, _ =>
            obtain rfl := Option.some.inj hoq
            intro a1 w1 K hk hK
            have e3 : a1.tmps.getD 3 undef = .slice (some ⟨g, 0, none⟩) m n := hk.same 3 (by simp)
            have gd : a1.tmps[25]? = some (.bool true) := getD_bool (hk.deps ⟨5, .guard⟩ (by simp) rfl _ _ rfl rfl)
            simp [Region.wanted, Oper.wp, Act.eval, go_sem, e3, gd, yielded, e0, e1, k0, k1, hj1, hj2, hj3, hj4, hj5, hEl, hgl, hzb, hwj, hwj2]
            exact hK _ _ (Below.refl _ _) rfl
            | 8, _ =>
            obtain rfl := Option.some.inj hoq
            intro a1 w1 K hk hK
            have e5 : a1.tmps.getD 5 undef = .int .i64 (j : Nat) := hk.same 5 (by simp)
            have gd : a1.tmps[25]? = some (.bool true) := getD_bool (hk.deps ⟨5, .guard⟩ (by simp) rfl _ _ rfl rfl)
            simp [Region.wanted, Oper.wp, Act.eval, go_sem, e5, gd, yielded, e0, e1, k0, k1, hj1, hj2, hj3, hj4, hj5, hEl, hgl, hzb, hwj, hwj2]
            exact hK _ _ (Below.refl _ _) rfl
            | 9, _ =>
            obtain rfl := Option.some.inj hoq
            intro a1 w1 K hk hK
            have d28 : a1.tmps.getD 28 undef = .int .i64 (j : Nat) := hk.deps ⟨8, .data⟩ (by simp) rfl _ _ rfl rfl
            have gd : a1.tmps[25]? = some (.bool true) := getD_bool (hk.deps ⟨5, .guard⟩ (by simp) rfl _ _ rfl rfl)
            simp [Region.wanted, Oper.wp, Act.eval, go_sem, d28, gd, yielded, e0, e1, k0, k1, hj1, hj2, hj3, hj4, hj5, hEl, hgl, hzb, hwj, hwj2]
            exact hK _ _ (Below.refl _ _) rfl
            | 10, _ =>
            obtain rfl := Option.some.inj hoq
            intro a1 w1 K hk hK
            have d27 : a1.tmps.getD 27 undef = .slice (some ⟨g, 0, none⟩) m n := hk.deps ⟨7, .data⟩ (by simp) rfl _ _ rfl rfl
            have d29 : a1.tmps.getD 29 undef = .int .i64 ((j : Int) + 1) := hk.deps ⟨9, .data⟩ (by simp) rfl _ _ rfl rfl
            have gd : a1.tmps[25]? = some (.bool true) := getD_bool (hk.deps ⟨5, .guard⟩ (by simp) rfl _ _ rfl rfl)
            simp [Region.wanted, Oper.wp, Act.eval, go_sem, d27, d29, gd, yielded, e0, e1, k0, k1, hj1, hj2, hj3, hj4, hj5, hEl, hgl, hzb, hwj, hwj2]
            exact hK _ _ (Below.refl _ _) rfl
            | 11, _ =>
            obtain rfl := Option.some.inj hoq
            intro a1 w1 K hk hK
            have d30 : a1.tmps.getD 30 undef = .pointer (some ⟨g, (j + 1) * 2, none⟩) := hk.deps ⟨10, .data⟩ (by simp) rfl _ _ rfl rfl
            have gd : a1.tmps[25]? = some (.bool true) := getD_bool (hk.deps ⟨5, .guard⟩ (by simp) rfl _ _ rfl rfl)
            have c0 : w1.cell? ⟨E, 0, none⟩ = some (.slice Ax k cx) := Below.keeps hk.ext _ _ (by simp [go_sem, e0, e1, k0, k1, hj1, hj2, hj3, hj4, hj5, hEl, hgl, hzb, hwj, hwj2])
            have c1 : w1.cell? ⟨E, 1, none⟩ = some (.int .u64 (vx : Nat)) := Below.keeps hk.ext _ _ (by simp [go_sem, e0, e1, k0, k1, hj1, hj2, hj3, hj4, hj5, hEl, hgl, hzb, hwj, hwj2])
            have c2 : w1.cell? ⟨g, (j + 1) * 2, none⟩ = some (.slice Ay k cy) := Below.keeps hk.ext _ _ (by simp [go_sem, e0, e1, k0, k1, hj1, hj2, hj3, hj4, hj5, hEl, hgl, hzb, hwj, hwj2])
            have c3 : w1.cell? ⟨g, (j + 1) * 2 + 1, none⟩ = some (.int .u64 (vy : Nat)) := Below.keeps hk.ext _ _ (by simp [go_sem, e0, e1, k0, k1, hj1, hj2, hj3, hj4, hj5, hEl, hgl, hzb, hwj, hwj2])
            simp [Region.wanted, Oper.wp, Act.eval, go_sem, d30, gd, yielded, c0, c1, c2, c3, e0, e1, k0, k1, hj1, hj2, hj3, hj4, hj5, hEl, hgl, hzb, hwj, hwj2]
            exact hK _ _ (Below.refl _ _) rfl
            | 12, _ =>
            obtain rfl := Option.some.inj hoq
            intro a1 w1 K hk hK
            have d26 : a1.tmps.getD 26 undef = .agg #[.slice Ax k cx, .int .u64 (vx : Nat)] := hk.deps ⟨6, .data⟩ (by simp) rfl _ _ rfl rfl
            have d31 : a1.tmps.getD 31 undef = .agg #[.slice Ay k cy, .int .u64 (vy : Nat)] := hk.deps ⟨11, .data⟩ (by simp) rfl _ _ rfl rfl
            have gd : a1.tmps[25]? = some (.bool true) := getD_bool (hk.deps ⟨5, .guard⟩ (by simp) rfl _ _ rfl rfl)
            simp [Region.wanted, Oper.wp, Act.eval, go_sem, d26, d31, gd, yielded, e0, e1, k0, k1, hj1, hj2, hj3, hj4, hj5, hEl, hgl, hzb, hwj, hwj2]
            refine (HOR.out _ (below_trans (by repeat (first | exact Below.refl _ _ | (refine Below.drew ?_) | (refine below_drewN' ?_ _) | (refine below_alloc' ?_ _) | (refine Below.setCell ?_ (by first | exact Nat.le_refl _ | (simp; done) | (simp; omega)) _))) hk.ext)).mono ?_
            rintro e w9 ⟨rfl, hb9⟩
            exact hK _ _ hb9 rfl
            | 13, _ =>
            obtain rfl := Option.some.inj hoq
            intro a1 w1 K hk hK
            have d32 : a1.tmps.getD 32 undef = .int .i64 z := hk.deps ⟨12, .data⟩ (by simp) rfl _ _ rfl rfl
            have gd : a1.tmps[25]? = some (.bool true) := getD_bool (hk.deps ⟨5, .guard⟩ (by simp) rfl _ _ rfl rfl)
            simp [Region.wanted, Oper.wp, Act.eval, go_sem, d32, gd, yielded, e0, e1, k0, k1, hj1, hj2, hj3, hj4, hj5, hEl, hgl, hzb, hwj, hwj2]
            exact hK _ _ (Below.refl _ _) rfl
          · intro vs w3 hl hb3 hv
            match vs, hl with
            | [v0, v1, v2, v3, v4, v5, v6, v7, v8, v9, v10, v11, v12, v13], _ =>
            obtain rfl : v0 = .int .i64 (j : Nat) := hv 0 (by omega)
            obtain rfl : v1 = .int .i64 ((j : Int) + 1) := hv 1 (by omega)
            obtain rfl : v2 = .slice (some ⟨g, 0, none⟩) m n := hv 2 (by omega)
            obtain rfl : v3 = .int .i64 (m : Nat) := hv 3 (by omega)
            obtain rfl : v4 = .bool true := hv 4 (by omega)
            obtain rfl : v5 = .bool true := hv 5 (by omega)
            obtain rfl : v6 = .agg #[.slice Ax k cx, .int .u64 (vx : Nat)] := hv 6 (by omega)
            obtain rfl : v7 = .slice (some ⟨g, 0, none⟩) m n := hv 7 (by omega)
            obtain rfl : v8 = .int .i64 (j : Nat) := hv 8 (by omega)
            obtain rfl : v9 = .int .i64 ((j : Int) + 1) := hv 9 (by omega)
            obtain rfl : v10 = .pointer (some ⟨g, (j + 1) * 2, none⟩) := hv 10 (by omega)
            obtain rfl : v11 = .agg #[.slice Ay k cy, .int .u64 (vy : Nat)] := hv 11 (by omega)
            obtain rfl : v12 = .int .i64 z := hv 12 (by omega)
            obtain rfl : v13 = .bool zb := hv 13 (by omega)
            clear hv
            simp only [putAll, List.take_succ_cons, List.take_zero, List.drop_succ_cons, List.drop_zero, Act.put, List.setIfInBounds_toArray, List.set_cons_succ, List.set_cons_zero]
            cases zb with
            | true =>
              have HNX := Lib.hid (HI.out.skip (show Below wr.heap.size wr w3 from below_trans HBW.out hb3) (by rw [HLN.out.1]; exact hj5) (by have := HZ.out.1 (HZB.out.1 rfl); rw [HRX.out.1, HRY.out.1]; exact this))
              go_wp2_with fail
              go_roundw
              case rel =>
                skip
                exact ⟨zs, j + 1, r, rfl, by first | (rw [hwj]; rfl) | rfl, HNX.out⟩
              case measure => first | (rw [intOf_of' hwj, intOf_of' rfl]; omega) | (rw [intOf_of' rfl, intOf_of' rfl]; omega) | (simp [intOf]; omega)
            | false =>
              have HNE := Lib.hid (show ∀ h : j + 1 < ys.length, ek (ys[j]'(by omega)) ≠ ek (ys[j + 1]'h) from fun h hh => by rw [HRX.out.1, HRY.out.1] at hh; exact Bool.noConfusion (HZB.out.2 (HZ.out.2 hh)))
              clear k0 k1 hgl
              have HPW := Lib.hid (HI.out.pr.step (below_trans HBW.out hb3))
              have HBB := Lib.hid (show Below wr.heap.size wr w3 from below_trans HBW.out hb3)
              replace e0 := Below.keeps hb3 _ _ e0
              replace e1 := Below.keeps hb3 _ _ e1
              replace hEl := Nat.lt_of_lt_of_le hEl hb3.size
              clear hb3
              have hrm : r < n := HRN.out
              go_wp2_with ((at_builtin; refine wpList_append_room (W0 := w) rfl (.tmp 35) (.tmp 37) rfl g n r _ _ zs (.slice Ax k cx) vx (HPW.out.step (by repeat (first | exact Below.refl _ _ | (refine Below.drew ?_) | (refine below_drewN' ?_ _) | (refine below_alloc' ?_ _) | (refine Below.setCell ?_ (by first | exact Nat.le_refl _ | (simp; done) | (simp; omega)) _)))) hrm rfl rfl ?_ ?_ rfl ?_))
              try case refine_1 => simp only [World.cell?, heap_alloc_new]; rfl
              try case refine_2 => simp only [World.cell?, heap_alloc_new]; rfl
              go_roundw
              case rel =>
                have hyj : j < ys.length := by rw [HLN.out.1]; exact hj
                have hrz : r < zs.length := by have := HI.out.rj; have := HI.out.len; omega
                have h5 := (HPW.out.step (show Below w3.heap.size w3 (w3.alloc (Obj.cells #[Value.slice Ax k cx, Value.int IntKind.u64 (vx : Nat)] 35)) from below_alloc' (Below.refl _ _) _)).set (j := r) hrz (⟨.slice Ax k cx, ⟨px, vx⟩⟩ : Pe) (by have := HRX.out.2.1; rw [HUX.out] at this; exact this)
                have h6 : ys[j] = (⟨.slice Ax k cx, ⟨px, vx⟩⟩ : Pe) := by rw [HRX.out.1, HUX.out]
                refine ⟨zs.set r ys[j], j + 1, r + 1, rfl, by first | (rw [hwj]; rfl) | rfl, HI.out.take hyj HNE.out ?_⟩
                rw [h6]
                exact h5
              case measure => first | (rw [intOf_of' hwj, intOf_of' rfl]; omega) | (rw [intOf_of' rfl, intOf_of' rfl]; omega) | (simp [intOf]; omega)
        · have HNE := Lib.hid (show ∀ h : j + 1 < ys.length, ek (ys[j]'(by omega)) ≠ ek (ys[j + 1]'h) from fun h hh => by have := HLN.out.1; omega)
          have hj4 : ¬ ((j : Int) + 1 < (m : Int)) := by omega
          clear hym hzm hm1000
          refine wp_region_vals 14 [fun z9 _ => z9 = .int .i64 (j : Nat),
            fun z9 _ => z9 = .int .i64 ((j : Int) + 1),
            fun z9 _ => z9 = .slice (some ⟨g, 0, none⟩) m n,
            fun z9 _ => z9 = .int .i64 (m : Nat),
            fun z9 _ => z9 = .bool false,
            fun z9 _ => z9 = .bool false,
            fun z9 _ => z9 = undef,
            fun z9 _ => z9 = undef,
            fun z9 _ => z9 = undef,
            fun z9 _ => z9 = undef,
            fun z9 _ => z9 = undef,
            fun z9 _ => z9 = undef,
            fun z9 _ => z9 = undef,
            fun z9 _ => z9 = undef]
            (by kernel_rfl) (by kernel_rfl) (by kernel_rfl) (by kernel_rfl) ?_ ?_ ?_
          · intro V hV v w1 w2 h hb
            simp only [List.mem_cons, List.not_mem_nil, or_false] at hV
            rcases hV with rfl | rfl | rfl | rfl | rfl | rfl | rfl | rfl | rfl | rfl | rfl | rfl | rfl | rfl
            all_goals first | exact h | (exact h)
          · intro iq oq hiq hoq
            match iq, hiq with
            | 0, _ =>
            obtain rfl := Option.some.inj hoq
            intro a1 w1 K hk hK
            have e5 : a1.tmps.getD 5 undef = .int .i64 (j : Nat) := hk.same 5 (by simp)
            simp [Region.wanted, Oper.wp, Act.eval, go_sem, e5, hj1, hj2, hj4, hwj, hwj2]
            exact hK _ _ (Below.refl _ _) rfl
            | 1, _ =>
            obtain rfl := Option.some.inj hoq
            intro a1 w1 K hk hK
            have d20 : a1.tmps.getD 20 undef = .int .i64 (j : Nat) := hk.deps ⟨0, .data⟩ (by simp) rfl _ _ rfl rfl
            simp [Region.wanted, Oper.wp, Act.eval, go_sem, d20, hj1, hj2, hj4, hwj, hwj2]
            exact hK _ _ (Below.refl _ _) rfl
            | 2, _ =>
            obtain rfl := Option.some.inj hoq
            intro a1 w1 K hk hK
            have e3 : a1.tmps.getD 3 undef = .slice (some ⟨g, 0, none⟩) m n := hk.same 3 (by simp)
            simp [Region.wanted, Oper.wp, Act.eval, go_sem, e3, hj1, hj2, hj4, hwj, hwj2]
            exact hK _ _ (Below.refl _ _) rfl
            | 3, _ =>
            obtain rfl := Option.some.inj hoq
            intro a1 w1 K hk hK
            have d22 : a1.tmps.getD 22 undef = .slice (some ⟨g, 0, none⟩) m n := hk.deps ⟨2, .data⟩ (by simp) rfl _ _ rfl rfl
            simp [Region.wanted, Oper.wp, Act.eval, go_sem, d22, hj1, hj2, hj4, hwj, hwj2]
            exact hK _ _ (Below.refl _ _) rfl
            | 4, _ =>
            obtain rfl := Option.some.inj hoq
            intro a1 w1 K hk hK
            have d21 : a1.tmps.getD 21 undef = .int .i64 ((j : Int) + 1) := hk.deps ⟨1, .data⟩ (by simp) rfl _ _ rfl rfl
            have d23 : a1.tmps.getD 23 undef = .int .i64 (m : Nat) := hk.deps ⟨3, .data⟩ (by simp) rfl _ _ rfl rfl
            simp [Region.wanted, Oper.wp, Act.eval, go_sem, d21, d23, hj1, hj2, hj4, hwj, hwj2]
            exact hK _ _ (Below.refl _ _) rfl
            | 5, _ =>
            obtain rfl := Option.some.inj hoq
            intro a1 w1 K hk hK
            have d24 : a1.tmps.getD 24 undef = .bool false := hk.deps ⟨4, .data⟩ (by simp) rfl _ _ rfl rfl
            simp [Region.wanted, Oper.wp, Act.eval, go_sem, d24, hj1, hj2, hj4, hwj, hwj2]
            exact hK _ _ (Below.refl _ _) rfl
            | 6, _ =>
            obtain rfl := Option.some.inj hoq
            intro a1 w1 K hk hK
            have e6 : a1.tmps.getD 6 undef = .pointer (some ⟨E, 0, none⟩) := hk.same 6 (by simp)
            have gd : a1.tmps[25]? = some (.bool false) := getD_bool (hk.deps ⟨5, .guard⟩ (by simp) rfl _ _ rfl rfl)
            simp [Region.wanted, Oper.wp, Act.eval, go_sem, e6, gd, yielded, hj1, hj2, hj4, hwj, hwj2]
            exact hK _ _ (Below.refl _ _) rfl
            | 7, _ =>
            obtain rfl := Option.some.inj hoq
            intro a1 w1 K hk hK
            have e3 : a1.tmps.getD 3 undef = .slice (some ⟨g, 0, none⟩) m n := hk.same 3 (by simp)
            have gd : a1.tmps[25]? = some (.bool false) := getD_bool (hk.deps ⟨5, .guard⟩ (by simp) rfl _ _ rfl rfl)
            simp [Region.wanted, Oper.wp, Act.eval, go_sem, e3, gd, yielded, hj1, hj2, hj4, hwj, hwj2]
            exact hK _ _ (Below.refl _ _) rfl
            | 8, _ =>
            obtain rfl := Option.some.inj hoq
            intro a1 w1 K hk hK
            have e5 : a1.tmps.getD 5 undef = .int .i64 (j : Nat) := hk.same 5 (by simp)
            have gd : a1.tmps[25]? = some (.bool false) := getD_bool (hk.deps ⟨5, .guard⟩ (by simp) rfl _ _ rfl rfl)
            simp [Region.wanted, Oper.wp, Act.eval, go_sem, e5, gd, yielded, hj1, hj2, hj4, hwj, hwj2]
            exact hK _ _ (Below.refl _ _) rfl
            | 9, _ =>
            obtain rfl := Option.some.inj hoq
            intro a1 w1 K hk hK
            have d28 : a1.tmps.getD 28 undef = undef := hk.deps ⟨8, .data⟩ (by simp) rfl _ _ rfl rfl
            have gd : a1.tmps[25]? = some (.bool false) := getD_bool (hk.deps ⟨5, .guard⟩ (by simp) rfl _ _ rfl rfl)
            simp [Region.wanted, Oper.wp, Act.eval, go_sem, d28, gd, yielded, hj1, hj2, hj4, hwj, hwj2]
            exact hK _ _ (Below.refl _ _) rfl
            | 10, _ =>
            obtain rfl := Option.some.inj hoq
            intro a1 w1 K hk hK
            have d27 : a1.tmps.getD 27 undef = undef := hk.deps ⟨7, .data⟩ (by simp) rfl _ _ rfl rfl
            have d29 : a1.tmps.getD 29 undef = undef := hk.deps ⟨9, .data⟩ (by simp) rfl _ _ rfl rfl
            have gd : a1.tmps[25]? = some (.bool false) := getD_bool (hk.deps ⟨5, .guard⟩ (by simp) rfl _ _ rfl rfl)
            simp [Region.wanted, Oper.wp, Act.eval, go_sem, d27, d29, gd, yielded, hj1, hj2, hj4, hwj, hwj2]
            exact hK _ _ (Below.refl _ _) rfl
            | 11, _ =>
            obtain rfl := Option.some.inj hoq
            intro a1 w1 K hk hK
            have d30 : a1.tmps.getD 30 undef = undef := hk.deps ⟨10, .data⟩ (by simp) rfl _ _ rfl rfl
            have gd : a1.tmps[25]? = some (.bool false) := getD_bool (hk.deps ⟨5, .guard⟩ (by simp) rfl _ _ rfl rfl)
            simp [Region.wanted, Oper.wp, Act.eval, go_sem, d30, gd, yielded, hj1, hj2, hj4, hwj, hwj2]
            exact hK _ _ (Below.refl _ _) rfl
            | 12, _ =>
            obtain rfl := Option.some.inj hoq
            intro a1 w1 K hk hK
            have d26 : a1.tmps.getD 26 undef = undef := hk.deps ⟨6, .data⟩ (by simp) rfl _ _ rfl rfl
            have d31 : a1.tmps.getD 31 undef = undef := hk.deps ⟨11, .data⟩ (by simp) rfl _ _ rfl rfl
            have gd : a1.tmps[25]? = some (.bool false) := getD_bool (hk.deps ⟨5, .guard⟩ (by simp) rfl _ _ rfl rfl)
            simp [Region.wanted, Oper.wp, Act.eval, go_sem, d26, d31, gd, yielded, hj1, hj2, hj4, hwj, hwj2]
            exact hK _ _ (Below.refl _ _) rfl
            | 13, _ =>
            obtain rfl := Option.some.inj hoq
            intro a1 w1 K hk hK
            have d32 : a1.tmps.getD 32 undef = undef := hk.deps ⟨12, .data⟩ (by simp) rfl _ _ rfl rfl
            have gd : a1.tmps[25]? = some (.bool false) := getD_bool (hk.deps ⟨5, .guard⟩ (by simp) rfl _ _ rfl rfl)
            simp [Region.wanted, Oper.wp, Act.eval, go_sem, d32, gd, yielded, hj1, hj2, hj4, hwj, hwj2]
            exact hK _ _ (Below.refl _ _) rfl
          · intro vs w3 hl hb3 hv
            match vs, hl with
            | [v0, v1, v2, v3, v4, v5, v6, v7, v8, v9, v10, v11, v12, v13], _ =>
            obtain rfl : v0 = .int .i64 (j : Nat) := hv 0 (by omega)
            obtain rfl : v1 = .int .i64 ((j : Int) + 1) := hv 1 (by omega)
            obtain rfl : v2 = .slice (some ⟨g, 0, none⟩) m n := hv 2 (by omega)
            obtain rfl : v3 = .int .i64 (m : Nat) := hv 3 (by omega)
            obtain rfl : v4 = .bool false := hv 4 (by omega)
            obtain rfl : v5 = .bool false := hv 5 (by omega)
            obtain rfl : v6 = undef := hv 6 (by omega)
            obtain rfl : v7 = undef := hv 7 (by omega)
            obtain rfl : v8 = undef := hv 8 (by omega)
            obtain rfl : v9 = undef := hv 9 (by omega)
            obtain rfl : v10 = undef := hv 10 (by omega)
            obtain rfl : v11 = undef := hv 11 (by omega)
            obtain rfl : v12 = undef := hv 12 (by omega)
            obtain rfl : v13 = undef := hv 13 (by omega)
            clear hv
            simp only [putAll, List.take_succ_cons, List.take_zero, List.drop_succ_cons, List.drop_zero, Act.put, List.setIfInBounds_toArray, List.set_cons_succ, List.set_cons_zero]
            have HPW := Lib.hid (HI.out.pr.step (below_trans HBW.out hb3))
            have HBB := Lib.hid (show Below wr.heap.size wr w3 from below_trans HBW.out hb3)
            replace e0 := Below.keeps hb3 _ _ e0
            replace e1 := Below.keeps hb3 _ _ e1
            replace hEl := Nat.lt_of_lt_of_le hEl hb3.size
            clear hb3
            have hrm : r < n := HRN.out
            go_wp2_with ((at_builtin; refine wpList_append_room (W0 := w) rfl (.tmp 35) (.tmp 37) rfl g n r _ _ zs (.slice Ax k cx) vx (HPW.out.step (by repeat (first | exact Below.refl _ _ | (refine Below.drew ?_) | (refine below_drewN' ?_ _) | (refine below_alloc' ?_ _) | (refine Below.setCell ?_ (by first | exact Nat.le_refl _ | (simp; done) | (simp; omega)) _)))) hrm rfl rfl ?_ ?_ rfl ?_))
            try case refine_1 => simp only [World.cell?, heap_alloc_new]; rfl
            try case refine_2 => simp only [World.cell?, heap_alloc_new]; rfl
            go_roundw
            case rel =>
              have hyj : j < ys.length := by rw [HLN.out.1]; exact hj
              have hrz : r < zs.length := by have := HI.out.rj; have := HI.out.len; omega
              have h5 := (HPW.out.step (show Below w3.heap.size w3 (w3.alloc (Obj.cells #[Value.slice Ax k cx, Value.int IntKind.u64 (vx : Nat)] 35)) from below_alloc' (Below.refl _ _) _)).set (j := r) hrz (⟨.slice Ax k cx, ⟨px, vx⟩⟩ : Pe) (by have := HRX.out.2.1; rw [HUX.out] at this; exact this)
              have h6 : ys[j] = (⟨.slice Ax k cx, ⟨px, vx⟩⟩ : Pe) := by rw [HRX.out.1, HUX.out]
              refine ⟨zs.set r ys[j], j + 1, r + 1, rfl, by first | (rw [hwj]; rfl) | rfl, HI.out.take hyj HNE.out ?_⟩
              rw [h6]
              exact h5
            case measure => first | (rw [intOf_of' hwj, intOf_of' rfl]; omega) | (rw [intOf_of' rfl, intOf_of' rfl]; omega) | (simp [intOf]; omega)
      · have hjm : j = m := by have := hI.jm; omega
        subst hjm
        have hj2 : ¬ ((j : Int) < (j : Int)) := by omega
        have hdr : ys.drop j = [] := List.drop_eq_nil_of_le (by omega)
        have hout : zs.take r = lastsL ys := by have := hI.out; rw [hdr] at this; simpa [lastsL] using this
        have HF := Lib.hid (And.intro hout hI)
        clear hI hzm hym hm1000 hdr hout
        go_wp2_with fail
        go_ret
        refine ⟨_, rfl, ?_, ?_⟩
        · have e1 := lasts_puts (k := k) HY.out.2.2.2 HY.out.2.2.1 HX.out.2.1
          rw [HX.out.1, ← HF.out.1] at e1
          exact HF.out.2.pr.rd (by have := HF.out.2.rj; have := HF.out.2.len; have := HLN.out.1; omega) HX.out.2.2 e1
        · exact HF.out.2.pr.bel
end Go.Proofs.YtdkomhmciihkiaaGreat
/-! MakA -/
namespace Go.Proofs.YtdkomhmciihkiaaGreat
open Go.RowKit
set_option linter.unusedVariables false
set_option linter.unusedSimpArgs false
set_option maxRecDepth 100000

def TellE (w : World) (f : FuncId) (cb : Array Value) (l : List En) (p : En → Bool) : Prop := ∀ c ∈ l, ∀ u w', RdU w' u (pti c.p) → Below w.heap.size w w' → Calls Tryz.prog f (#[.agg #[u, .int .u64 (c.v : Nat)]] ++ cb) w' fun e w'' => e = .returned (.bool (p c)) ∧ Below w'.heap.size w' w''
def IdxE (W : World) (l : List En) (p : En → Bool) (e : Ending) (w' : World) : Prop := ∃ i : Int, e = .returned (.int .i64 i) ∧ (decide (0 ≤ i) = l.any p) ∧ Below W.heap.size W w'
set_option maxHeartbeats 1000000 in
theorem eIndex_any (w : World) (f : FuncId) (cb : Array Value) (l : List En) (v : Value) (p : En → Bool) (hl : RdE w v l) (hn : l.length ≤ 1000) (hf : TellE w f cb l p)
    (hent : ∀ (args : Array Value) (w : World), (callFunc f args).run Tryz.prog w = .ok (.enter f args) w) : Calls Tryz.prog 243 #[v, .func (.func f) #[] cb] w fun e w' => IdxE w l p e w' := by
  obtain ⟨A, cc, rfl, _, hx⟩ := hl
  have HX := Lib.hid hx
  have HF := Lib.hid (And.intro hf hn)
  clear hx hf hn
  go_enter Tryz.func243, Tryz.ntmps243
  go_wp2_with fail
  go_loopw [5, 8] (fun _ iv wr => ∃ j : Nat, j ≤ l.length ∧ iv = .int .i64 (j : Nat) ∧ (l.take j).any p = false ∧ Below w.heap.size w wr) (fun _ iv _ => l.length - (intOf iv).toNat)
  case atStart => exact ⟨0, Nat.zero_le _, rfl, by simp, (by repeat (first | exact Below.refl _ _ | (refine Below.drew ?_) | (refine below_drewN' ?_ _) | (refine below_alloc' ?_ _) | (refine Below.setCell ?_ (by first | exact Nat.le_refl _ | (simp; done) | (simp; omega)) _)))⟩
  case round =>
    obtain ⟨j, hj, rfl, hany, hb⟩ := hrel
    have HB := Lib.hid (And.intro hany hb)
    clear hany
    by_cases hlt : j < l.length
    · have h3 : (j : Int) < (l.length : Int) := by omega
      have h5 : (0 : Int) ≤ (j : Int) := by omega
      have HW := Lib.hid (show wrap64 ((j : Int) + 1) = ((j + 1 : Nat) : Int) by have := HF.out.2; unfold wrap64; omega)
      obtain ⟨b2, o2, rfl, hc⟩ := HX.out (by omega)
      obtain ⟨u, k0, ku, k1⟩ := (hc j hlt).keep (Below.keeps hb)
      have htk : (l.take (j + 1)).any p = p l[j] := by rw [← List.take_append_getElem hlt, List.any_append, HB.out.1]; simp
      have HT := Lib.hid (And.intro htk (fun h : p l[j] = true => (List.any_eq_true.2 ⟨_, List.getElem_mem hlt, h⟩ : l.any p = true)))
      have HCL := Lib.hid (fun W (hu : RdU W u (pti l[j].p)) (hb : Below w.heap.size w W) => HF.out.1 l[j] (List.getElem_mem hlt) u W hu hb)
      have HU := Lib.hid ku
      have hlb := World.block_lt_of_cell? wr _ k0
      obtain ⟨Au, cu, rfl, _⟩ := RdU.point ku
      generalize l[j] = c at *
      clear hc htk hb ku
      cases hp : p c with
      | true =>
        rw [hp] at HT HCL
        go_wp2_with fail
        refine (HCL.out _ (HU.out.below (by repeat (first | exact Below.refl _ _ | (refine Below.drew ?_) | (refine below_drewN' ?_ _) | (refine below_alloc' ?_ _) | (refine Below.setCell ?_ (by first | exact Nat.le_refl _ | (simp; done) | (simp; omega)) _)))) (HB.out.2.trans ((show Below wr.heap.size wr _ from (by repeat (first | exact Below.refl _ _ | (refine Below.drew ?_) | (refine below_drewN' ?_ _) | (refine below_alloc' ?_ _) | (refine Below.setCell ?_ (by first | exact Nat.le_refl _ | (simp; done) | (simp; omega)) _)))).mono HB.out.2.size))).mono ?_
        rintro e w2 ⟨rfl, hb2⟩
        have HF2 := Lib.hid (HB.out.2.trans ((below_trans (by repeat (first | exact Below.refl _ _ | (refine Below.drew ?_) | (refine below_drewN' ?_ _) | (refine below_alloc' ?_ _) | (refine Below.setCell ?_ (by first | exact Nat.le_refl _ | (simp; done) | (simp; omega)) _))) hb2).mono HB.out.2.size))
        clear hb2
        go_wp2_with fail
        go_ret
        exact ⟨_, rfl, by rw [HT.out.2 (by first | exact rfl | trivial)]; simp, HF2.out⟩
      | false =>
        rw [hp] at HT HCL
        go_wp2_with fail
        refine (HCL.out _ (HU.out.below (by repeat (first | exact Below.refl _ _ | (refine Below.drew ?_) | (refine below_drewN' ?_ _) | (refine below_alloc' ?_ _) | (refine Below.setCell ?_ (by first | exact Nat.le_refl _ | (simp; done) | (simp; omega)) _)))) (HB.out.2.trans ((show Below wr.heap.size wr _ from (by repeat (first | exact Below.refl _ _ | (refine Below.drew ?_) | (refine below_drewN' ?_ _) | (refine below_alloc' ?_ _) | (refine Below.setCell ?_ (by first | exact Nat.le_refl _ | (simp; done) | (simp; omega)) _)))).mono HB.out.2.size))).mono ?_
        rintro e w2 ⟨rfl, hb2⟩
        have HF2 := Lib.hid (HB.out.2.trans ((below_trans (by repeat (first | exact Below.refl _ _ | (refine Below.drew ?_) | (refine below_drewN' ?_ _) | (refine below_alloc' ?_ _) | (refine Below.setCell ?_ (by first | exact Nat.le_refl _ | (simp; done) | (simp; omega)) _))) hb2).mono HB.out.2.size))
        clear hb2
        go_wp2_with fail
        go_roundw
        case rel => exact ⟨j + 1, by omega, (by first | rw [HW.out] | rfl | simp), HT.out.1, HF2.out⟩
        case measure => (first | (rw [intOf_of' HW.out, intOf_of' rfl]; omega) | (simp [intOf]; omega) | (simp [intOf] <;> omega))
    · have h3 : ¬ (j : Int) < (l.length : Int) := by omega
      have e : l.take j = l := List.take_of_length_le (by omega)
      rw [e] at HB
      clear hb
      go_wp2_with fail
      go_ret
      exact ⟨-1, rfl, by rw [HB.out.1]; rfl, HB.out.2⟩
theorem eContains_any (w : World) (f : FuncId) (cb : Array Value) (l : List En) (v : Value) (p : En → Bool) (hl : RdE w v l) (hn : l.length ≤ 1000) (hf : TellE w f cb l p)
    (hent : ∀ (args : Array Value) (w : World), (callFunc f args).run Tryz.prog w = .ok (.enter f args) w) : Calls Tryz.prog 201 #[v, .func (.func f) #[] cb] w fun e w' => e = .returned (.bool (l.any p)) ∧ Below w.heap.size w w' := by
  have HI := Lib.hid (eIndex_any w f cb l v p hl hn hf hent)
  obtain ⟨A, cc, rfl, _, hx⟩ := hl
  clear hx hf hn hent
  go_enter Tryz.func201, Tryz.ntmps201
  go_wp2_with fail
  refine HI.out.mono ?_
  rintro e w2 ⟨i, rfl, hi, hb⟩
  have HB := Lib.hid (And.intro hi hb)
  clear hi hb
  go_wp2_with fail
  go_ret
  exact ⟨by rw [← HB.out.1]; rfl, HB.out.2⟩
theorem dims1_any (w : World) (B : Nat) (k : Int) (c : En) (u : Value) (hB : w.cell? ⟨B, 0, none⟩ = some (.int .i64 k)) (hu : RdU w u (pti c.p)) :
    Calls Tryz.prog 202 (#[.agg #[u, .int .u64 (c.v : Nat)]] ++ #[.pointer (some ⟨B, 0, none⟩)]) w fun e w' => e = .returned (.bool (((c.p.length : Nat) : Int) != k)) ∧ Below w.heap.size w w' := by
  have hlb := World.block_lt_of_cell? w _ hB
  obtain ⟨Au, cu, rfl, _⟩ := RdU.point hu
  clear hu
  obtain ⟨p, x⟩ := c
  obtain ⟨n, hn⟩ : ∃ n, p.length = n := ⟨_, rfl⟩
  simp only [hn]
  clear hn
  go_enter Tryz.func202, Tryz.ntmps202
  go_wp2_with fail
  go_ret
  exact ⟨rfl, (by repeat (first | exact Below.refl _ _ | (refine Below.drew ?_) | (refine below_drewN' ?_ _) | (refine below_alloc' ?_ _) | (refine Below.setCell ?_ (by first | exact Nat.le_refl _ | (simp; done) | (simp; omega)) _)))⟩
theorem dims_any (w : World) (k : Int) (l : List En) (v : Value) (hl : RdE w v l) (hn : l.length ≤ 1000) :
    Calls Tryz.prog 145 #[.int .i64 k, v] w fun e w' => e = .returned (.bool (l.all fun c => ((c.p.length : Nat) : Int) == k)) ∧ Below w.heap.size w w' := by
  have hent := enters_lit' Tryz.func202 (by kernel_rfl) (by kernel_rfl)
  have HC := Lib.hid (fun W (hb : Below w.heap.size w W) (B : Nat) (hB : W.cell? ⟨B, 0, none⟩ = some (.int .i64 k)) => eContains_any W 202 #[.pointer (some ⟨B, 0, none⟩)] l v (fun c => ((c.p.length : Nat) : Int) != k) (hl.below hb) hn (fun c _ u w' hu hb' => dims1_any w' B k c u (Below.keeps hb' _ _ hB) hu) hent)
  have hall : (l.all fun c => ((c.p.length : Nat) : Int) == k) = !(l.any fun c => ((c.p.length : Nat) : Int) != k) := by
    simp [List.all_eq_not_any_not, bne]
  rw [hall]
  obtain ⟨A, cc, rfl, _⟩ := hl
  clear hn hent hall
  go_enter Tryz.func145, Tryz.ntmps145
  go_wp2_with fail
  refine (HC.out _ (by repeat (first | exact Below.refl _ _ | (refine Below.drew ?_) | (refine below_drewN' ?_ _) | (refine below_alloc' ?_ _) | (refine Below.setCell ?_ (by first | exact Nat.le_refl _ | (simp; done) | (simp; omega)) _))) w.heap.size (by simp [go_sem])).mono ?_
  rintro e w2 ⟨rfl, hb2⟩
  have HF2 := Lib.hid (show Below w.heap.size w w2 from below_trans (by repeat (first | exact Below.refl _ _ | (refine Below.drew ?_) | (refine below_drewN' ?_ _) | (refine below_alloc' ?_ _) | (refine Below.setCell ?_ (by first | exact Nat.le_refl _ | (simp; done) | (simp; omega)) _))) hb2)
  clear hb2
  go_wp2_with fail
  go_ret
  exact ⟨rfl, HF2.out⟩
theorem nd_k (w : World) (k g : Nat) (l : List En) (hn : Nd w k g l) : Calls Tryz.prog 118 #[.pointer (some ⟨g, 0, none⟩)] w fun e w' => e = .returned (.int .i64 (k : Nat)) ∧ w' = w := by
  obtain ⟨va, kp, hh⟩ := hn.hd
  obtain ⟨hpl, _⟩ := hn.pre_ok
  obtain ⟨u, c1, hu⟩ := hh.c1
  obtain ⟨A0, c0, rfl, _⟩ := RdU.point hu
  exact nk_any w g k A0 c0 (by rw [hpl] at c1; exact c1)
theorem of_nd (w : World) (k g : Nat) (l : List En) (hn : Nd w k g l) (k1 : 1 ≤ k) (k16 : k ≤ 16) :
    Calls Tryz.prog 60 #[.int .i64 (k : Nat), .pointer (some ⟨g, 0, none⟩)] w fun e w' => ∃ t, e = .returned (.tuple #[.pointer (some ⟨t, 0, none⟩), .int .i64 0]) ∧ TrR w' t k l ∧ Below w.heap.size w w' := by
  have HD := Lib.hid (And.intro k1 (And.intro k16 hn))
  have h1 : ¬ (k : Int) < 1 := by omega
  have h2 : ¬ (k : Int) > 16 := by omega
  have h3 : decide ((k : Int) < 1) = false := by simp; omega
  have h4 : decide ((k : Int) > 16) = false := by simp; omega
  have HK := Lib.hid (nd_k w k g l hn)
  clear k1 k16 hn
  go_enter Tryz.func60, Tryz.ntmps60
  go_wp2_with fail
  refine HK.out.mono ?_
  rintro e w2 ⟨rfl, hw⟩
  obtain rfl := hw.symm
  clear hw
  go_wp2_with fail
  go_ret2
  exact ⟨_, rfl, ⟨by simp [go_sem], ⟨some g, by simp [go_sem, pv], HD.out.2.2.bel (by repeat (first | exact Below.refl _ _ | (refine Below.drew ?_) | (refine below_drewN' ?_ _) | (refine below_alloc' ?_ _) | (refine Below.setCell ?_ (by first | exact Nat.le_refl _ | (simp; done) | (simp; omega)) _)))⟩, HD.out.1, HD.out.2.1, _, alloc_blk _ _⟩, (by repeat (first | exact Below.refl _ _ | (refine Below.drew ?_) | (refine below_drewN' ?_ _) | (refine below_alloc' ?_ _) | (refine Below.setCell ?_ (by first | exact Nat.le_refl _ | (simp; done) | (simp; omega)) _)))⟩
end Go.Proofs.YtdkomhmciihkiaaGreat
/-! MakB -/
namespace Go.Proofs.YtdkomhmciihkiaaGreat
open Go.RowKit
set_option linter.unusedVariables false
set_option linter.unusedSimpArgs false
set_option maxRecDepth 100000

theorem puts_mem {k : Nat} {a l : List En} (ha : Et k a) (hl : ∀ e ∈ l, e.p.length = k ∧ ∀ x ∈ e.p, x < 2 ^ 64) : ∀ e ∈ putsL a l, e ∈ a ∨ e ∈ l := by
  induction l generalizing a with
  | nil => exact fun e he => .inl he
  | cons c l ih =>
    intro e he
    have hc := hl c (by simp)
    rcases ih (ha.ins c.v hc.1 hc.2) (fun e he => hl e (by simp [he])) e he with h | h
    · rcases ha.mem_ins.1 h with h | h
      · exact .inr (by rw [h]; exact List.mem_cons_self)
      · exact .inl h.1
    · exact .inr (List.mem_cons_of_mem _ h)
def MakR (W : World) (k : Nat) (l : List En) (e : Ending) (w' : World) : Prop := ∃ t, e = .returned (.tuple #[.pointer (some ⟨t, 0, none⟩), .int .i64 0]) ∧ TrR w' t k l ∧ Below W.heap.size W w'
set_option maxHeartbeats 2000000 in
theorem make_any (N : Nat) (hS : SortOk N) (w : World) (k : Nat) (l : List En) (v : Value) (hv : RdE w v l) (hlN : l.length ≤ N) (hl : l.length ≤ 1000) (k1 : 1 ≤ k) (k16 : k ≤ 16) (hk : ∀ e ∈ l, e.p.length = k ∧ ∀ q ∈ e.p, q < 2 ^ 64) (hvs : ∀ e ∈ l, e.v < 2 ^ 64) :
    Calls Tryz.prog 90 #[.int .i64 (k : Nat), v] w fun e w' => MakR w k (putsL [] l) e w' := by
  have HNEW := Lib.hid (tnew_any w k k1 k16)
  have HDI := Lib.hid (fun W (hb : Below w.heap.size w W) => dims_any W (k : Nat) l v (hv.below hb) hl)
  have hall : (l.all fun c => ((c.p.length : Nat) : Int) == (k : Int)) = true := List.all_eq_true.2 fun c hc => by rw [(hk c hc).1]; simp
  rw [hall] at HDI
  have HSO := Lib.hid (fun W (hb : Below w.heap.size w W) => sorted_any N hS W k l v (hv.below hb) hlN hl k1 k16 hk)
  have hets : EtS k (putsL [] l) := ⟨(Et.nil k).puts hk, by omega, Nat.le_trans (puts_len [] l) (by simpa using hl)⟩
  have hpv : ∀ e ∈ putsL [] l, e.v < 2 ^ 64 := fun e he => hvs e ((puts_mem (Et.nil k) hk e he).resolve_left (by simp))
  obtain ⟨m, hm⟩ : ∃ m, putsL [] l = m := ⟨_, rfl⟩
  rw [hm] at HSO hets hpv
  rw [hm]
  have HE := Lib.hid (And.intro hets (And.intro hpv (And.intro k1 k16)))
  obtain ⟨A, c, rfl, _⟩ := hv
  clear hall hets hpv hm hk hvs hl hlN k1 k16 hS
  go_enter Tryz.func90, Tryz.ntmps90
  go_wp2_with fail
  refine HNEW.out.mono ?_
  rintro e w1 ⟨g, rfl, ht, hb⟩
  have HT := Lib.hid (And.intro ht hb)
  clear ht hb
  go_wp2_with fail
  refine (HDI.out _ HT.out.2).mono ?_
  rintro e w2 ⟨rfl, hb⟩
  have HB2 := Lib.hid (HT.out.2.trans (hb.mono HT.out.2.size))
  have HK := Lib.hid (tk_any w2 g k (HT.out.1.bel hb).c0)
  clear hb
  go_wp2_with fail
  refine HK.out.mono ?_
  rintro e w3 ⟨rfl, hw⟩
  obtain rfl := hw.symm
  clear hw
  go_wp2_with fail
  refine (HSO.out _ HB2.out).mono ?_
  rintro e w4 ⟨v4, rfl, hr4, hb4⟩
  have HB4 := Lib.hid (HB2.out.trans (hb4.mono HB2.out.size))
  clear hb4
  by_cases hne : m = []
  · subst hne
    obtain ⟨A4, c4, rfl, _⟩ := hr4
    simp only [List.length_nil]
    have HBN := Lib.hid (bld_nil w4 A4 c4)
    have HOF := Lib.hid (of_nil w4 k HE.out.2.2.1 HE.out.2.2.2)
    go_wp2_with fail
    refine HBN.out.mono ?_
    rintro e w5 ⟨rfl, hw⟩
    obtain rfl := hw.symm
    clear hw
    go_wp2_with fail
    refine HOF.out.mono ?_
    rintro e w6 ⟨t, rfl, ht6, hb6⟩
    have HF := Lib.hid (And.intro ht6 (HB4.out.trans (hb6.mono HB4.out.size)))
    clear ht6 hb6
    go_wp2_with fail
    go_ret2
    exact ⟨t, rfl, HF.out.1, HF.out.2⟩
  · have HBN := Lib.hid (build_any k HE.out.2.2.1 HE.out.2.2.2 _ m w4 v4 (Nat.le_refl _) hr4 HE.out.1 hne HE.out.2.1)
    obtain ⟨A4, c4, rfl, _⟩ := hr4
    go_wp2_with fail
    refine HBN.out.mono ?_
    rintro e w5 ⟨g5, rfl, hn5, hb5⟩
    have HOF := Lib.hid (of_nd w5 k g5 m hn5 HE.out.2.2.1 HE.out.2.2.2)
    have HB5 := Lib.hid (HB4.out.trans (hb5.mono HB4.out.size))
    clear hb5 hn5
    go_wp2_with fail
    refine HOF.out.mono ?_
    rintro e w6 ⟨t, rfl, ht6, hb6⟩
    have HF := Lib.hid (And.intro ht6 (HB5.out.trans (hb6.mono HB5.out.size)))
    clear ht6 hb6
    go_wp2_with fail
    go_ret2
    exact ⟨t, rfl, HF.out.1, HF.out.2⟩
end Go.Proofs.YtdkomhmciihkiaaGreat
/-! PutP -/
namespace Go.Proofs.YtdkomhmciihkiaaGreat
open Go.RowKit
set_option linter.unusedVariables false

/-- entries with no two unlike ones under one key: put one after the other they are the same ones -/
theorem puts_set {k : Nat} {l : List En} (hl : ∀ e ∈ l, e.p.length = k ∧ ∀ x ∈ e.p, x < 2 ^ 64) (hd : ∀ x ∈ l, ∀ y ∈ l, x.key = y.key → x = y) (e : En) : e ∈ putsL [] l ↔ e ∈ l := by
  refine ⟨fun h => ?_, fun h => ?_⟩
  · rcases puts_mem (Et.nil k) hl e h with h | h
    · cases h
    · exact h
  · have h1 := puts_look (Et.nil k) hl e.key
    have hm : e ∈ l.filter (fun x => x.key == e.key) := List.mem_filter.2 ⟨h, by simp⟩
    cases hg : (l.filter fun x => x.key == e.key).getLast? with
    | none =>
      rw [List.getLast?_eq_none_iff] at hg
      rw [hg] at hm; cases hm
    | some y =>
      rw [hg] at h1
      have hy := List.mem_of_getLast? hg
      rw [List.mem_filter] at hy
      have : y = e := hd y hy.1 e h (by simpa using hy.2)
      subst this
      exact (Od.look_some h1).1
theorem asc_eq {l m : List En} (hl : Od.Asc En.key l) (hm : Od.Asc En.key m) (h : ∀ e, e ∈ l ↔ e ∈ m) : l = m := by
  refine Od.ext hl hm fun n => ?_
  cases hn : Od.look En.key l n with
  | some x =>
    obtain ⟨h1, rfl⟩ := Od.look_some hn
    exact (Od.look_mem hm ((h x).1 h1)).symm
  | none =>
    exact (Od.look_eq_none fun x hx => Od.look_none hn x ((h x).2 hx)).symm
/-- in ascending order: the same list -/
theorem puts_id {k : Nat} {l : List En} (h : Et k l) : putsL [] l = l := by
  have hl : ∀ e ∈ l, e.p.length = k ∧ ∀ x ∈ e.p, x < 2 ^ 64 := fun e he => ⟨h.len e he, h.ok e he⟩
  refine asc_eq ((Et.nil k).puts hl).asc h.asc fun e => puts_set hl (fun x hx y hy hk => ?_) e
  have h1 := Od.look_mem h.asc hx
  have h2 := Od.look_mem h.asc hy
  rw [hk, h2] at h1
  exact (Option.some.inj h1).symm
end Go.Proofs.YtdkomhmciihkiaaGreat
/-! SrtE -/
namespace Go.Proofs.YtdkomhmciihkiaaGreat
open Go.RowKit
set_option linter.unusedVariables false
set_option linter.unusedSimpArgs false
set_option maxRecDepth 100000

/-- where an element comes from once two ranges are exchanged -/
def swp (a b n t : Nat) : Nat := if a ≤ t ∧ t < a + n then t + (b - a) else if b ≤ t ∧ t < b + n then t - (b - a) else t
theorem swp_at {a b cnt i p : Nat} (h : a + cnt ≤ b) (hi : i < cnt) (hp : p = a + i) : swp a b i p = p := by unfold swp; rw [if_neg (by omega), if_neg (by omega)]
theorem swp_at2 {a b cnt i q : Nat} (h : a + cnt ≤ b) (hi : i < cnt) (hq : q = b + i) : swp a b i q = q := by unfold swp; rw [if_neg (by omega), if_neg (by omega)]
theorem swp_to {a b cnt i p q : Nat} (h : a + cnt ≤ b) (hi : i < cnt) (hp : p = a + i) (hq : q = b + i) : swp a b (i + 1) q = p := by unfold swp; rw [if_neg (by omega), if_pos (by omega)]; omega
theorem swp_to2 {a b cnt i p q : Nat} (hi : i < cnt) (hp : p = a + i) (hq : q = b + i) (hab : a ≤ b) : swp a b (i + 1) p = q := by unfold swp; rw [if_pos (by omega)]; omega
theorem swp_else {a b i p q t : Nat} (hp : p = a + i) (hq : q = b + i) (e1 : ¬ q = t) (e2 : ¬ p = t) : swp a b i t = swp a b (i + 1) t := by
  unfold swp
  by_cases h1 : a ≤ t ∧ t < a + i
  · rw [if_pos h1, if_pos (by omega)]
  · rw [if_neg h1, if_neg (show ¬ (a ≤ t ∧ t < a + (i + 1)) by omega)]
    by_cases h2 : b ≤ t ∧ t < b + i
    · rw [if_pos h2, if_pos (by omega)]
    · rw [if_neg h2, if_neg (by omega)]
theorem wrap_add {a i p : Nat} (h : p = a + i) (hb : p ≤ 100000) : wrap64 ((a : Int) + (i : Int)) = (p : Int) := by unfold wrap64; omega
theorem wrap_sub {a i p : Nat} (h : p + i = a) (hb : a ≤ 100000) : wrap64 ((a : Int) - (i : Int)) = (p : Int) := by unfold wrap64; omega
theorem wrap_succ {i : Nat} (hb : i ≤ 100000) : wrap64 ((i : Int) + 1) = ((i + 1 : Nat) : Int) := by unfold wrap64; omega
def SwpR (W0 : World) (g n a b cnt : Nat) (xs : List Pe) (e : Ending) (w' : World) : Prop := ∃ ys, e = .returned (.tuple #[]) ∧ PR W0 w' g n ys ∧ ys.length = xs.length ∧ ∀ t : Nat, t < xs.length → ys[t]? = xs[swp a b cnt t]?
theorem PR.at2 {W0 w : World} {g n : Nat} {xs : List Pe} (h : PR W0 w g n xs) (j : Nat) (x : Pe) (hx : xs[j]? = some x) : w.cell? ⟨g, j * 2, none⟩ = some x.1 ∧ w.cell? ⟨g, j * 2 + 1, none⟩ = some (.int .u64 (x.2.v : Nat)) ∧ RdU W0 x.1 (pti x.2.p) := by
  obtain ⟨hj, rfl⟩ := List.getElem?_eq_some_iff.1 hx
  obtain ⟨h1, h2⟩ := h.at' j hj
  exact ⟨h1, h2, h.pts _ (List.getElem_mem hj)⟩
set_option maxHeartbeats 4000000 in
theorem swapR_any (W0 w : World) (g n a b cnt m c : Nat) (xs : List Pe) (hl : xs.length = m) (hm : m ≤ 1000) (hab : a + cnt ≤ b) (hbm : b + cnt ≤ m) (h : PR W0 w g n xs) :
    Calls Tryz.prog 262 #[.slice (some ⟨g, 0, none⟩) m c, .int .i64 (a : Nat), .int .i64 (b : Nat), .int .i64 (cnt : Nat), .func (.func 205) #[] #[]] w fun e w' => SwpR W0 g n a b cnt xs e w' := by
  have HPR := Lib.hid h
  have HD := Lib.hid (And.intro hl (And.intro hm (And.intro hab hbm)))
  clear h hl hm hab hbm
  go_enter Tryz.func262, Tryz.ntmps262
  go_wp2_with fail
  go_loopw [10] (fun iv wr => ∃ (i : Nat) (ys : List Pe), i ≤ cnt ∧ iv = .int .i64 (i : Nat) ∧ PR W0 wr g n ys ∧ ys.length = xs.length ∧ ∀ t : Nat, t < xs.length → ys[t]? = xs[swp a b i t]?) (fun iv _ => cnt - (intOf iv).toNat)
  case atStart => exact ⟨0, xs, Nat.zero_le _, rfl, HPR.out, rfl, fun t ht => by unfold swp; rw [if_neg (by omega), if_neg (by omega)]⟩
  case round =>
    obtain ⟨i, ys, hi, rfl, hpr, hlen, hsw⟩ := hrel
    have HR := Lib.hid (And.intro hpr (And.intro hlen hsw))
    by_cases hlt : i < cnt
    · obtain ⟨h1, h2, h3, h4⟩ := HD.out
      have hlt2 : (i : Int) < (cnt : Int) := by omega
      obtain ⟨p, hp⟩ : ∃ p, p = a + i := ⟨_, rfl⟩
      obtain ⟨q, hq⟩ : ∃ q, q = b + i := ⟨_, rfl⟩
      have hpm : (p : Int) < (m : Int) := by omega
      have hqm : (q : Int) < (m : Int) := by omega
      have hp0 : (0 : Int) ≤ (p : Int) := by omega
      have hq0 : (0 : Int) ≤ (q : Int) := by omega
      have hpq : ¬ p = q := by omega
      have HW := Lib.hid (show wrap64 ((i : Int) + 1) = ((i + 1 : Nat) : Int) from wrap_succ (by omega))
      have hpl : p < ys.length := by omega
      have hql : q < ys.length := by omega
      obtain ⟨x, hx⟩ : ∃ x, ys[p] = x := ⟨_, rfl⟩
      obtain ⟨y, hy⟩ : ∃ y, ys[q] = y := ⟨_, rfl⟩
      have ex : ys[p]? = some x := by rw [List.getElem?_eq_getElem hpl, hx]
      have ey : ys[q]? = some y := by rw [List.getElem?_eq_getElem hql, hy]
      obtain ⟨k0, k1, rx⟩ := hpr.at2 p x ex
      obtain ⟨q0, q1, ry⟩ := hpr.at2 q y ey
      have HSET := Lib.hid (show PR W0 ((((wr.setCell ⟨g, p * 2, none⟩ y.1).setCell ⟨g, p * 2 + 1, none⟩ (.int .u64 (y.2.v : Nat))).setCell ⟨g, q * 2, none⟩ x.1).setCell ⟨g, q * 2 + 1, none⟩ (.int .u64 (x.2.v : Nat))) g n ((ys.set p y).set q x) from (hpr.set hpl y ry).set (by rw [List.length_set]; exact hql) x rx)
      have hth := fun r => hpr.thaw r
      have hgl := hpr.lt
      have HNEW := Lib.hid (show ∀ t : Nat, t < xs.length → ((ys.set p y).set q x)[t]? = xs[swp a b (i + 1) t]? from fun t ht => by
        rw [List.getElem?_set, List.getElem?_set]
        by_cases e1 : q = t
        · subst e1
          rw [if_pos rfl, if_pos (by simpa using hql), ← ex, hsw p (by omega), swp_at h3 hlt hp, swp_to h3 hlt hp hq]
        · rw [if_neg e1]
          by_cases e2 : p = t
          · subst e2
            rw [if_pos rfl, if_pos hpl, ← ey, hsw q (by omega), swp_at2 h3 hlt hq, swp_to2 hlt hp hq (by omega)]
          · rw [if_neg e2, hsw t ht, swp_else hp hq e1 e2])
      have HP1 := Lib.hid (show p ≤ 100000 ∧ q ≤ 100000 by omega)
      have hwp := wrap_add hp HP1.out.1
      have hwq := wrap_add hq HP1.out.2
      obtain ⟨ux, px, vx⟩ := x
      obtain ⟨uy, py, vy⟩ := y
      simp only at k0 k1 q0 q1 rx ry
      obtain ⟨Ax, cx, rfl, _⟩ := RdU.point rx
      obtain ⟨Ay, cy, rfl, _⟩ := RdU.point ry
      clear hpr hsw hx hy ex ey rx ry hp hq hi hlt h1 h2 h3 h4 hlen hpl hql
      go_wp2_with fail
      go_region
      go_wp2_with fail
      go_roundw
      case rel => exact ⟨i + 1, (ys.set p (.slice Ay py.length cy, ⟨py, vy⟩)).set q (.slice Ax px.length cx, ⟨px, vx⟩), by omega, (by first | rw [HW.out] | rfl | simp), HSET.out.step (by repeat (first | exact Below.refl _ _ | (refine Below.drew ?_) | (refine below_drewN' ?_ _))), by simpa using HR.out.2.1, HNEW.out⟩
      case measure => (first | (rw [intOf_of' HW.out, intOf_of' rfl]; omega) | (simp [intOf]; omega) | (simp [intOf] <;> omega))
    · have hlt2 : ¬ (i : Int) < (cnt : Int) := by omega
      obtain rfl : i = cnt := by omega
      clear hpr hlen hsw
      go_wp2_with fail
      go_end0
      exact ⟨ys, rfl, HR.out⟩
end Go.Proofs.YtdkomhmciihkiaaGreat
