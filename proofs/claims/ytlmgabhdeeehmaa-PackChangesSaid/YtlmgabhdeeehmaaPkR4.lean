/-
  The walk of pack.open.
-/
import Derived.Test.YtlmgabhdeeehmaaPkR3
import Derived.Lib.OthersKept
namespace Go.Proofs.Ytlmgabhdeeehmaa
open Go.RowKit
set_option linter.unusedVariables false
set_option linter.unusedSimpArgs false

theorem InvR.iterAt {W w : World} {G k : Nat} {rest : List Nat} {vl : Value} {last : Option (List Nat)} (h : InvR W G rest vl last w) {s : ByteArray} {pos : Nat} (hk : w.heap[k]? = some (.stringIter s pos)) (pos' : Nat) (hW : W.heap.size ≤ k) (hl : last = none) : InvR W G rest vl last (w.iterAt k s pos') := by
  subst hl
  obtain ⟨vb, h1, h2, h3, h4, h5⟩ := h
  exact ⟨vb, (Lib.iterAt_other _ _ _ _ _ (by intro e; rw [e, hk] at h1; cases h1)).trans h1, h2, h3, Lib.below_iterAt h4 hW _ _, h5⟩
/-- all blocks stand -/
def KeepH (w w' : World) : Prop := ∀ (b : Nat) (o : Obj), w.heap[b]? = some o → w'.heap[b]? = some o
theorem KeepH.below {w w' : World} (h : Below w.heap.size w w') : KeepH w w' := fun b o h1 => (h.block b (lt_of_block h1)).trans h1
theorem KeepH.keepR {w w1 w' : World} {G : Nat} (h : KeepH w w1) (hk : KeepR G w1 w') (hG : w.heap.size ≤ G) : KeepH w w' := fun b o h1 => hk.1 b o (h b o h1) (by have := lt_of_block h1; omega)
theorem KeepH.iterAt {w w1 : World} {k : Nat} {s : ByteArray} {pos : Nat} (h : KeepH w w1) (hk : w.heap.size ≤ k) : KeepH w (w1.iterAt k s pos) := fun b o h1 => (Lib.iterAt_other _ _ _ _ _ (by have := lt_of_block h1; omega)).trans (h b o h1)
/-- what open hands back -/
def OpenP (W w : World) (k n : Nat) (rest : List Nat) (e : Ending) (w' : World) : Prop :=
  ∃ G, e = .returned (.tuple #[.pointer (some ⟨G, 0, none⟩), .int .i64 (k : Nat), .int .u64 (n : Nat)]) ∧ InvR W G rest (.slice none 0 0) none w' ∧ w.heap.size ≤ G ∧ KeepH w w'

set_option maxRecDepth 8000 in
set_option maxHeartbeats 4000000 in
theorem open_any (W w : World) (x : UInt8) (hx : x.toNat < 128) (k n : Nat) (rest : List Nat) (vb : Value) (hv : RdB W vb (80 :: x.toNat :: (Pk.leb k ++ (Pk.leb n ++ rest)))) (h1 : 1 ≤ k) (h16 : k ≤ 16) (hn : n < 2 ^ 64) (hr : rest.length ≤ 30000) (hb : Below W.heap.size W w) :
    Calls Try.prog 99 #[vb, .string ⟨#[80, x]⟩] w fun e w' => OpenP W w k n rest e w' := by
  have HV := Lib.hid hv
  have HD := Lib.hid (And.intro h1 (And.intro h16 (And.intro hn hr)))
  have hvs : ∃ A m c, vb = .slice A m c := let ⟨A, c, e, _⟩ := hv; ⟨A, _, c, e⟩
  obtain ⟨A, m, c, rfl⟩ := hvs
  have HB := Lib.hid hb
  clear hv h1 h16 hn hr hb
  go_enter Try.func99, Try.ntmps99
  go_wp2_with fail
  have hI0 : InvR W w.heap.size (80 :: x.toNat :: (Pk.leb k ++ (Pk.leb n ++ rest))) (.slice none 0 0) none ((w.alloc (.cells #[.slice A m c, .slice none 0 0] 144)).iter ⟨#[80, x]⟩ 0) := by
    have h1 : Below w.heap.size w ((w.alloc (.cells #[.slice A m c, .slice none 0 0] 144)).alloc (.stringIter ⟨#[80, x]⟩ 0)) := (by repeat (first | exact Below.refl _ _ | assumption | (refine Below.drew ?_) | (refine below_drewN' ?_ _) | (refine below_alloc' ?_ _)))
    exact ⟨_, (Below.heap_alloc _ _ _ (by simp)).trans (heap_alloc_new _ _), HV.out, rfl, HB.out.trans (h1.mono HB.out.size), HB.out.size⟩
  have hk0 : KeepH w ((w.alloc (.cells #[.slice A m c, .slice none 0 0] 144)).iter ⟨#[80, x]⟩ 0) := KeepH.below (show Below w.heap.size w ((w.alloc (.cells #[.slice A m c, .slice none 0 0] 144)).alloc (.stringIter ⟨#[80, x]⟩ 0)) from (by repeat (first | exact Below.refl _ _ | assumption | (refine Below.drew ?_) | (refine below_drewN' ?_ _) | (refine below_alloc' ?_ _))))
  have hit0 : ((w.alloc (.cells #[.slice A m c, .slice none 0 0] 144)).iter ⟨#[80, x]⟩ 0).heap[w.heap.size + 1]? = some (.stringIter ⟨#[80, x]⟩ 0) := by
    have := World.iter_heap (w.alloc (.cells #[.slice A m c, .slice none 0 0] 144)) ⟨#[80, x]⟩ 0
    rw [World.size_alloc] at this
    exact this
  have HLen := Lib.hid (show (Pk.leb k).length ≤ 10 ∧ (Pk.leb n).length ≤ 10 ∧ rest.length ≤ 30000 from ⟨Pk.leb_length k, Pk.leb_length n, HD.out.2.2.2⟩)
  obtain ⟨G, hG⟩ : ∃ G, w.heap.size = G := ⟨_, rfl⟩
  obtain ⟨IT, hIT⟩ : ∃ IT, w.heap.size + 1 = IT := ⟨_, rfl⟩
  have HN := Lib.hid (show IT ≠ G ∧ W.heap.size ≤ IT ∧ w.heap.size ≤ IT ∧ w.heap.size ≤ G by have := HB.out.size; omega)
  rw [hG] at hI0
  rw [hIT] at hit0
  have HI0 := Lib.hid (And.intro hI0 (And.intro hit0 hk0))
  clear hI0 hit0 hk0
  simp only [hG]
  rw [hG] at hIT
  simp only [hIT]
  clear hG hIT
  go_loopw [] (fun wr => (wr.heap[IT]? = some (.stringIter ⟨#[80, x]⟩ 0) ∧ KeepH w wr ∧ InvR W G (80 :: x.toNat :: (Pk.leb k ++ (Pk.leb n ++ rest))) (.slice none 0 0) none wr) ∨ (wr.heap[IT]? = some (.stringIter ⟨#[80, x]⟩ 1) ∧ KeepH w wr ∧ InvR W G (x.toNat :: (Pk.leb k ++ (Pk.leb n ++ rest))) (.slice none 0 0) none wr) ∨
    (wr.heap[IT]? = some (.stringIter ⟨#[80, x]⟩ 2) ∧ KeepH w wr ∧ InvR W G (Pk.leb k ++ (Pk.leb n ++ rest)) (.slice none 0 0) none wr)) (fun wr => 2 - wr.iterPos IT)
  case atStart => exact .inl ⟨HI0.out.2.1, HI0.out.2.2, HI0.out.1⟩
  case round =>
    rcases hrel with ⟨hit, hkh, hI⟩ | ⟨hit, hkh, hI⟩ | ⟨hit, hkh, hI⟩
    · have HI := Lib.hid hI
      have hnx : ∀ ty, (Instr.next (.pointer (some ⟨IT, 0, none⟩)) true ty).run Try.prog wr = .ok (.tuple #[.bool true, .int .i64 0, .int .i32 80]) (wr.iterAt IT ⟨#[80, x]⟩ 1) := fun ty => by rw [Lib.run_next_ascii_at wr IT _ 0 ty hit (by show 0 < 2; decide) (by show (80 : UInt8).toNat < 128; decide)]; rfl
      have HIt2 := Lib.hid (Lib.iterAt_heap wr IT _ _ 1 hit)
      have HI2 := Lib.hid (HI.out.iterAt hit 1 HN.out.2.1 rfl)
      have HKh2 := Lib.hid ((Lib.hid hkh).out.iterAt (k := IT) (s := ⟨#[80, x]⟩) (pos := 1) HN.out.2.2.1)
      have hm : wr.iterPos IT = 0 := by simp [World.iterPos, hit]
      have HLen1 := Lib.hid (show (x.toNat :: (Pk.leb k ++ (Pk.leb n ++ rest))).length ≤ 1000000 by have := HLen.out; simp only [List.length_cons, List.length_append]; omega)
      have hx1 : ((#[80, x] : Array UInt8)[1]'(by show 1 < 2; decide)).toNat = x.toNat := rfl
      clear hI hkh
      go_wp2_with fail
      generalize wr.iterAt IT ⟨#[80, x]⟩ 1 = wS at *
      refine wp_region_late 1 (fun q => decide (q = 2) || decide (q = 3) || decide (q = 4)) (fun w w' => True) 5 [fun v _ => v = .pointer (some ⟨G, 0, none⟩),
        fun v9 w9 => v9 = .int .u8 80 ∧ InvR W G (x.toNat :: (Pk.leb k ++ (Pk.leb n ++ rest))) (.slice none 0 0) none w9 ∧ KeepR G wS w9,
        fun v _ => v = .string ⟨#[80, x]⟩,
        fun v _ => v = .int .i64 0,
        fun v _ => v = .int .u8 80]
        (by kernel_rfl) (by kernel_rfl) (by kernel_rfl) (by kernel_rfl) ?_ ?_ (by kernel_rfl) rfl ?_ ?_
      · intro i V hne hi v w1 w2 h hb
        match i, hne, hi with
        | 0, _, hi => obtain rfl := Option.some.inj hi; exact h
        | 1, hne, _ => exact absurd rfl hne
        | 2, _, hi => obtain rfl := Option.some.inj hi; exact h
        | 3, _, hi => obtain rfl := Option.some.inj hi; exact h
        | 4, _, hi => obtain rfl := Option.some.inj hi; exact h
        | k + 5, _, hi => simp at hi
      · intro i V hne hi v w1 w2 h hb
        match i, hne, hi with
        | 0, _, hi => obtain rfl := Option.some.inj hi; exact h
        | 1, hne, _ => exact absurd rfl hne
        | 2, _, hi => obtain rfl := Option.some.inj hi; exact h
        | 3, _, hi => obtain rfl := Option.some.inj hi; exact h
        | 4, _, hi => obtain rfl := Option.some.inj hi; exact h
        | k + 5, _, hi => simp at hi
      · intro i o hi ho
        match i, hi with
        | 0, _ =>
        obtain rfl := Option.some.inj ho
        intro a1 w1 K hk hK
        have e7 : a1.tmps.getD 7 undef = .pointer (some ⟨G, 0, none⟩) := hk.same 7 (by simp)
        simp [Region.wanted, Oper.wp, Act.eval, go_sem, e7, hx1]
        exact hK _ _ (step_early (by decide) rfl (Below.refl _ _)) rfl
        | 1, _ =>
        obtain rfl := Option.some.inj ho
        intro a1 w1 K hk hK
        have d18 : a1.tmps.getD 18 undef = .pointer (some ⟨G, 0, none⟩) := hk.deps ⟨0, .data⟩ (by simp) rfl _ _ rfl rfl
        simp [Region.wanted, Oper.wp, Act.eval, go_sem, d18, hx1]
        refine (one_any W w1 G (80) (x.toNat :: (Pk.leb k ++ (Pk.leb n ++ rest))) (.slice none 0 0) none (HI2.out.below (below_trans (by repeat (first | exact Below.refl _ _ | assumption | (refine Below.drew ?_) | (refine below_drewN' ?_ _) | (refine below_alloc' ?_ _))) (hk.ext rfl))) HLen1.out).mono ?_
        rintro e w2 ⟨rfl, hi2, hk2⟩
        exact hK _ _ (step_sp trivial) ⟨rfl, hi2, (KeepR.below (below_trans (show Below wS.heap.size wS _ from (by repeat (first | exact Below.refl _ _ | assumption | (refine Below.drew ?_) | (refine below_drewN' ?_ _) | (refine below_alloc' ?_ _)))) (hk.ext rfl))).trans hk2⟩
        | 2, _ =>
        obtain rfl := Option.some.inj ho
        intro a1 w1 K hk hK
        have e1 : a1.tmps.getD 1 undef = .string ⟨#[80, x]⟩ := hk.same 1 (by simp)
        simp [Region.wanted, Oper.wp, Act.eval, go_sem, e1, hx1]
        exact hK _ _ (step_late (by decide) rfl) rfl
        | 3, _ =>
        obtain rfl := Option.some.inj ho
        intro a1 w1 K hk hK
        have e8 : a1.tmps.getD 8 undef = .int .i64 0 := hk.same 8 (by simp)
        simp [Region.wanted, Oper.wp, Act.eval, go_sem, e8, hx1]
        exact hK _ _ (step_late (by decide) rfl) rfl
        | 4, _ =>
        obtain rfl := Option.some.inj ho
        intro a1 w1 K hk hK
        have d20 : a1.tmps.getD 20 undef = .string ⟨#[80, x]⟩ := hk.deps ⟨2, .data⟩ (by simp) rfl _ _ rfl rfl
        have d21 : a1.tmps.getD 21 undef = .int .i64 0 := hk.deps ⟨3, .data⟩ (by simp) rfl _ _ rfl rfl
        simp [Region.wanted, Oper.wp, Act.eval, go_sem, d20, d21, hx1]
        exact hK _ _ (step_late (by decide) rfl) rfl
      · intro vs w3 hl hv
        match vs, hl with
        | [v0, v1, v2, v3, v4], _ =>
        obtain rfl : v0 = .pointer (some ⟨G, 0, none⟩) := hv 0 (by omega)
        have q1 : v1 = .int .u8 80 ∧ InvR W G (x.toNat :: (Pk.leb k ++ (Pk.leb n ++ rest))) (.slice none 0 0) none w3 ∧ KeepR G wS w3 := hv 1 (by omega)
        obtain rfl : v2 = .string ⟨#[80, x]⟩ := hv 2 (by omega)
        obtain rfl : v3 = .int .i64 0 := hv 3 (by omega)
        obtain rfl : v4 = .int .u8 80 := hv 4 (by omega)
        clear hv
        simp only [putAll, List.take_succ_cons, List.take_zero, List.drop_succ_cons, List.drop_zero, Act.put, List.setIfInBounds_toArray, List.set_cons_succ, List.set_cons_zero]
        obtain ⟨rfl, hI3, hk3⟩ := q1
        have HI3 := Lib.hid hI3
        have HIt3 := Lib.hid (hk3.1 _ _ HIt2.out HN.out.1)
        have HKh3 := Lib.hid (HKh2.out.keepR hk3 HN.out.2.2.2)
        clear hI3 hk3 hnx
        go_wp2_with fail
        refine (must_true 9 _).mono ?_
        rintro e w4 ⟨rfl, hw⟩
        obtain rfl := hw.symm
        go_wp2_with fail
        go_roundw
        case rel => exact .inr (.inl ⟨HIt3.out, HKh3.out, HI3.out⟩)
        case measure => rw [hm]; simp [World.iterPos, HIt3.out]
    · have HI := Lib.hid hI
      have hnx : ∀ ty, (Instr.next (.pointer (some ⟨IT, 0, none⟩)) true ty).run Try.prog wr = .ok (.tuple #[.bool true, .int .i64 1, .int .i32 (x.toNat : Nat)]) (wr.iterAt IT ⟨#[80, x]⟩ 2) := fun ty => by rw [Lib.run_next_ascii_at wr IT _ 1 ty hit (by show 1 < 2; decide) hx]; rfl
      have HIt2 := Lib.hid (Lib.iterAt_heap wr IT _ _ 2 hit)
      have HI2 := Lib.hid (HI.out.iterAt hit 2 HN.out.2.1 rfl)
      have HKh2 := Lib.hid ((Lib.hid hkh).out.iterAt (k := IT) (s := ⟨#[80, x]⟩) (pos := 2) HN.out.2.2.1)
      have hm : wr.iterPos IT = 1 := by simp [World.iterPos, hit]
      have HLen1 := Lib.hid (show (Pk.leb k ++ (Pk.leb n ++ rest)).length ≤ 1000000 by have := HLen.out; simp only [List.length_cons, List.length_append]; omega)
      have hx1 : ((#[80, x] : Array UInt8)[1]'(by show 1 < 2; decide)).toNat = x.toNat := rfl
      clear hI hkh
      go_wp2_with fail
      generalize wr.iterAt IT ⟨#[80, x]⟩ 2 = wS at *
      refine wp_region_late 1 (fun q => decide (q = 2) || decide (q = 3) || decide (q = 4)) (fun w w' => True) 5 [fun v _ => v = .pointer (some ⟨G, 0, none⟩),
        fun v9 w9 => v9 = .int .u8 (x.toNat : Nat) ∧ InvR W G (Pk.leb k ++ (Pk.leb n ++ rest)) (.slice none 0 0) none w9 ∧ KeepR G wS w9,
        fun v _ => v = .string ⟨#[80, x]⟩,
        fun v _ => v = .int .i64 1,
        fun v _ => v = .int .u8 (x.toNat : Nat)]
        (by kernel_rfl) (by kernel_rfl) (by kernel_rfl) (by kernel_rfl) ?_ ?_ (by kernel_rfl) rfl ?_ ?_
      · intro i V hne hi v w1 w2 h hb
        match i, hne, hi with
        | 0, _, hi => obtain rfl := Option.some.inj hi; exact h
        | 1, hne, _ => exact absurd rfl hne
        | 2, _, hi => obtain rfl := Option.some.inj hi; exact h
        | 3, _, hi => obtain rfl := Option.some.inj hi; exact h
        | 4, _, hi => obtain rfl := Option.some.inj hi; exact h
        | k + 5, _, hi => simp at hi
      · intro i V hne hi v w1 w2 h hb
        match i, hne, hi with
        | 0, _, hi => obtain rfl := Option.some.inj hi; exact h
        | 1, hne, _ => exact absurd rfl hne
        | 2, _, hi => obtain rfl := Option.some.inj hi; exact h
        | 3, _, hi => obtain rfl := Option.some.inj hi; exact h
        | 4, _, hi => obtain rfl := Option.some.inj hi; exact h
        | k + 5, _, hi => simp at hi
      · intro i o hi ho
        match i, hi with
        | 0, _ =>
        obtain rfl := Option.some.inj ho
        intro a1 w1 K hk hK
        have e7 : a1.tmps.getD 7 undef = .pointer (some ⟨G, 0, none⟩) := hk.same 7 (by simp)
        simp [Region.wanted, Oper.wp, Act.eval, go_sem, e7, hx1]
        exact hK _ _ (step_early (by decide) rfl (Below.refl _ _)) rfl
        | 1, _ =>
        obtain rfl := Option.some.inj ho
        intro a1 w1 K hk hK
        have d18 : a1.tmps.getD 18 undef = .pointer (some ⟨G, 0, none⟩) := hk.deps ⟨0, .data⟩ (by simp) rfl _ _ rfl rfl
        simp [Region.wanted, Oper.wp, Act.eval, go_sem, d18, hx1]
        refine (one_any W w1 G (x.toNat) (Pk.leb k ++ (Pk.leb n ++ rest)) (.slice none 0 0) none (HI2.out.below (below_trans (by repeat (first | exact Below.refl _ _ | assumption | (refine Below.drew ?_) | (refine below_drewN' ?_ _) | (refine below_alloc' ?_ _))) (hk.ext rfl))) HLen1.out).mono ?_
        rintro e w2 ⟨rfl, hi2, hk2⟩
        exact hK _ _ (step_sp trivial) ⟨rfl, hi2, (KeepR.below (below_trans (show Below wS.heap.size wS _ from (by repeat (first | exact Below.refl _ _ | assumption | (refine Below.drew ?_) | (refine below_drewN' ?_ _) | (refine below_alloc' ?_ _)))) (hk.ext rfl))).trans hk2⟩
        | 2, _ =>
        obtain rfl := Option.some.inj ho
        intro a1 w1 K hk hK
        have e1 : a1.tmps.getD 1 undef = .string ⟨#[80, x]⟩ := hk.same 1 (by simp)
        simp [Region.wanted, Oper.wp, Act.eval, go_sem, e1, hx1]
        exact hK _ _ (step_late (by decide) rfl) rfl
        | 3, _ =>
        obtain rfl := Option.some.inj ho
        intro a1 w1 K hk hK
        have e8 : a1.tmps.getD 8 undef = .int .i64 1 := hk.same 8 (by simp)
        simp [Region.wanted, Oper.wp, Act.eval, go_sem, e8, hx1]
        exact hK _ _ (step_late (by decide) rfl) rfl
        | 4, _ =>
        obtain rfl := Option.some.inj ho
        intro a1 w1 K hk hK
        have d20 : a1.tmps.getD 20 undef = .string ⟨#[80, x]⟩ := hk.deps ⟨2, .data⟩ (by simp) rfl _ _ rfl rfl
        have d21 : a1.tmps.getD 21 undef = .int .i64 1 := hk.deps ⟨3, .data⟩ (by simp) rfl _ _ rfl rfl
        simp [Region.wanted, Oper.wp, Act.eval, go_sem, d20, d21, hx1]
        exact hK _ _ (step_late (by decide) rfl) rfl
      · intro vs w3 hl hv
        match vs, hl with
        | [v0, v1, v2, v3, v4], _ =>
        obtain rfl : v0 = .pointer (some ⟨G, 0, none⟩) := hv 0 (by omega)
        have q1 : v1 = .int .u8 (x.toNat : Nat) ∧ InvR W G (Pk.leb k ++ (Pk.leb n ++ rest)) (.slice none 0 0) none w3 ∧ KeepR G wS w3 := hv 1 (by omega)
        obtain rfl : v2 = .string ⟨#[80, x]⟩ := hv 2 (by omega)
        obtain rfl : v3 = .int .i64 1 := hv 3 (by omega)
        obtain rfl : v4 = .int .u8 (x.toNat : Nat) := hv 4 (by omega)
        clear hv
        simp only [putAll, List.take_succ_cons, List.take_zero, List.drop_succ_cons, List.drop_zero, Act.put, List.setIfInBounds_toArray, List.set_cons_succ, List.set_cons_zero]
        obtain ⟨rfl, hI3, hk3⟩ := q1
        have HI3 := Lib.hid hI3
        have HIt3 := Lib.hid (hk3.1 _ _ HIt2.out HN.out.1)
        have HKh3 := Lib.hid (HKh2.out.keepR hk3 HN.out.2.2.2)
        clear hI3 hk3 hnx
        go_wp2_with fail
        refine (must_true 9 _).mono ?_
        rintro e w4 ⟨rfl, hw⟩
        obtain rfl := hw.symm
        go_wp2_with fail
        go_roundw
        case rel => exact .inr (.inr ⟨HIt3.out, HKh3.out, HI3.out⟩)
        case measure => rw [hm]; simp [World.iterPos, HIt3.out]
    · have HI := Lib.hid hI
      have HKh := Lib.hid hkh
      clear hkh
      have hnx : ∀ ty, (Instr.next (.pointer (some ⟨IT, 0, none⟩)) true ty).run Try.prog wr = .ok (.tuple #[.bool false]) wr := fun ty => Lib.run_next_end_at wr IT _ 2 ty hit (by show ¬ 2 < 2; decide)
      have hk1 : (1 : Int) ≤ (k : Int) := by have := HD.out.1; omega
      have hk2 : (k : Int) ≤ 16 := by have := HD.out.2.1; omega
      have hk3 : (k : Int) ≥ 1 := by omega
      have hcv : IntKind.i64.wrap (k : Int) = (k : Int) := by have := HD.out.2.1; unfold IntKind.wrap; simp [IntKind.bits, IntKind.signed]; omega
      clear hI
      go_wp2_with fail
      clear hnx hit
      refine (rNumber_any W _ G k (Pk.leb n ++ rest) (.slice none 0 0) none HI.out (by have := HD.out.2.1; omega) (by have := HLen.out; simp only [List.length_append]; omega)).mono ?_
      rintro e w4 ⟨rfl, hI4, hk4⟩
      have HI4 := Lib.hid hI4
      have HKh4 := Lib.hid (HKh.out.keepR hk4 HN.out.2.2.2)
      clear hI4 hk4
      go_wp2_with fail
      refine (must_true 2 _).mono ?_
      rintro e w5 ⟨rfl, hw⟩
      obtain rfl := hw.symm
      go_wp2_with fail
      refine (rNumber_any W _ G n rest (.slice none 0 0) none HI4.out HD.out.2.2.1 (by have := HLen.out; omega)).mono ?_
      rintro e w6 ⟨rfl, hI6, hk6⟩
      have HI6 := Lib.hid hI6
      have HKh6 := Lib.hid (HKh4.out.keepR hk6 HN.out.2.2.2)
      clear hI6 hk6
      go_wp2_with fail
      go_ret3
      exact ⟨G, rfl, HI6.out, HN.out.2.2.2, HKh6.out⟩
end Go.Proofs.Ytlmgabhdeeehmaa
