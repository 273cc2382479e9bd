/-
  CurvePlaces: the walk.
-/
import Derived.Test.YtlmgabhdeeehmaaLawCurve2
namespace Go.Proofs.Ytlmgabhdeeehmaa
open Go.RowKit
set_option linter.unusedVariables false

theorem Same_true (va vb : Value) (a b : Int) (w : World) (ha : RdU w va [a, b]) (hb : RdU w vb [a, b]) :
    Calls Try.prog 19 #[va, vb] w fun e w' => e = .returned (.bool true) ∧ ∃ n, w' = w.drewN n := by
  have := Same_any va vb [a, b] [a, b] w ha hb (by simp)
  simpa using this

set_option maxRecDepth 100000 in
set_option maxHeartbeats 1000000 in
theorem places_long (n q : Int) (A : Option Addr) (l c : Nat) (w : World) (h : (l : Int) > 40) :
    Calls Try.prog 7 #[.int .i64 n, .slice A l c, .int .u64 q] w fun e w' => e = .returned (.bool true) ∧ Below w.heap.size w w' := by
  go_enter Try.func7, Try.ntmps7
  go_wp2_with fail
  refine (awake30 _).mono ?_
  rintro e w1 ⟨rfl, hb⟩
  go_wp2_with fail
  go_ret
  exact ⟨rfl, hb⟩

set_option maxRecDepth 100000 in
set_option maxHeartbeats 1000000 in
theorem places_out (n q : Int) (A : Option Addr) (l c : Nat) (p : List Int) (w : World) (h : ¬ (l : Int) > 40) (ho : n < 1 ∨ 20 < n) (hv : RdU w (.slice A l c) p) (hp : ∀ z ∈ p, 0 ≤ z) (hq : 0 ≤ q) :
    Calls Try.prog 7 #[.int .i64 n, .slice A l c, .int .u64 q] w fun e w' => e = .returned (.bool true) ∧ Below w.heap.size w w' := by
  have c3 := Cv.checkR_out p ho
  have HPL := fun w hv => Place_any n (.slice A l c) p w hv hp
  rw [show Cv.placeR n p = (0, 3) by unfold Cv.placeR; rw [c3]; rfl] at HPL
  have HNX := fun w hv => Next_any n (.slice A l c) p w hv hp
  rw [show Cv.nextR n p = ([], false, 3) by unfold Cv.nextR; rw [c3]; rfl] at HNX
  have HPT := fun w => Point_any n q w hq
  rw [show Cv.pointR n q = ([], 3) by unfold Cv.pointR; rw [if_pos (by omega)]] at HPT
  have HPL := Lib.hid HPL
  have HNX := Lib.hid HNX
  have HPT := Lib.hid HPT
  have hv := Lib.hid hv
  clear hp hq c3
  rcases ho with h1 | h1
  · skip
    go_enter Try.func7, Try.ntmps7
    go_wp2_with fail
    refine (awake30 _).mono ?_
    rintro e w1 ⟨rfl, b1⟩
    go_wp2_with fail
    refine Calls.mono (HPL.out _ ?_) ?_
    · exact (hv.out.below b1)
    rintro e w2 ⟨rfl, b2⟩
    have B2 : Below w.heap.size w w2 := b1.trans (b2.mono b1.size)
    go_wp2_with fail
    refine (HPT.out _).mono ?_
    rintro e w3 ⟨vq, rfl, vq', b3⟩
    have B3 : Below w.heap.size w w3 := B2.trans (b3.mono B2.size)
    obtain ⟨aq, cq, rfl, _⟩ := vq'.slice
    simp only [List.length_nil] at *
    go_wp2_with fail
    refine Calls.mono (HNX.out _ ?_) ?_
    · exact (hv.out.below B3)
    rintro e w4 ⟨vn, rfl, vn', b4⟩
    have B4 : Below w.heap.size w w4 := B3.trans (b4.mono B3.size)
    obtain ⟨an, cn, rfl, _⟩ := vn'.slice
    simp only [List.length_nil] at *
    have vqh := Lib.hid (vq'.below b4)
    have vnh := Lib.hid vn'
    have B4h := Lib.hid B4
    clear vq' vn' b1 b2 b3 b4 B2 B3 B4
    go_wp2_with fail
    go_ret
    exact ⟨rfl, B4h.out⟩
  · have h2 : ¬ n < 1 := by omega
    go_enter Try.func7, Try.ntmps7
    go_wp2_with fail
    refine (awake30 _).mono ?_
    rintro e w1 ⟨rfl, b1⟩
    go_wp2_with fail
    refine Calls.mono (HPL.out _ ?_) ?_
    · exact (hv.out.below b1)
    rintro e w2 ⟨rfl, b2⟩
    have B2 : Below w.heap.size w w2 := b1.trans (b2.mono b1.size)
    go_wp2_with fail
    refine (HPT.out _).mono ?_
    rintro e w3 ⟨vq, rfl, vq', b3⟩
    have B3 : Below w.heap.size w w3 := B2.trans (b3.mono B2.size)
    obtain ⟨aq, cq, rfl, _⟩ := vq'.slice
    simp only [List.length_nil] at *
    go_wp2_with fail
    refine Calls.mono (HNX.out _ ?_) ?_
    · exact (hv.out.below B3)
    rintro e w4 ⟨vn, rfl, vn', b4⟩
    have B4 : Below w.heap.size w w4 := B3.trans (b4.mono B3.size)
    obtain ⟨an, cn, rfl, _⟩ := vn'.slice
    simp only [List.length_nil] at *
    have vqh := Lib.hid (vq'.below b4)
    have vnh := Lib.hid vn'
    have B4h := Lib.hid B4
    clear vq' vn' b1 b2 b3 b4 B2 B3 B4
    go_wp2_with fail
    go_ret
    exact ⟨rfl, B4h.out⟩

set_option maxRecDepth 100000 in
set_option maxHeartbeats 2000000 in
theorem places_10 (k : Nat) (q Q' X Y : Int) (A : Option Addr) (l c : Nat) (xs : List Int) (cd : Int) (w : World) (hk1 : 1 ≤ (k : Int)) (hk2 : (k : Int) ≤ 20)
    (hv : Hid (RdU w (.slice A l c) xs))
    (hl : ¬ (l : Int) > 40)
    (hcd : (cd != 0) = true)
    (hq : ¬ q < Q')
    (HPL : Hid (∀ w, RdU w (.slice A l c) xs → Calls Try.prog 31 #[.int .i64 k, (.slice A l c)] w fun e w' => e = .returned (.tuple #[.int .u64 0, .int .i64 cd]) ∧ Below w.heap.size w w'))
    (HPT : Hid (∀ w, Calls Try.prog 30 #[.int .i64 k, .int .u64 q] w (RetPt w ([], 3))))
    (HNX : Hid (∀ w, RdU w (.slice A l c) xs → Calls Try.prog 32 #[.int .i64 k, (.slice A l c)] w (RetNx w ([], false, cd))))
    (HP : Hid (∀ w, Calls Try.prog 29 #[.int .i64 (2 * (k : Int))] w fun e w' => e = .returned (.int .u64 Q') ∧ w' = w))
    (HCK : Hid (∀ w, RdU w (.slice A l c) xs → Calls Try.prog 34 #[.int .i64 k, (.slice A l c)] w fun e w' => e = .returned (.int .i64 cd) ∧ ∃ m, w' = w.drewN m)) :
    Calls Try.prog 7 #[.int .i64 k, (.slice A l c), .int .u64 q] w fun e w' => e = .returned (.bool true) ∧ Below w.heap.size w w' := by
  go_enter Try.func7, Try.ntmps7
  go_wp2_with fail
  refine (awake30 _).mono ?_
  rintro e w1 ⟨rfl, b1⟩
  go_wp2_with fail
  refine Calls.mono (HPL.out _ ?_) ?_
  · exact (hv.out.below b1)
  rintro e w2 ⟨rfl, b2⟩
  have B2 : Below w.heap.size w w2 := b1.trans (b2.mono b1.size)
  go_wp2_with fail
  refine (HPT.out _).mono ?_
  rintro e w3 ⟨vq, rfl, vq', b3⟩
  have B3 : Below w.heap.size w w3 := B2.trans (b3.mono B2.size)
  obtain ⟨aq, cq, rfl, _⟩ := vq'.slice
  simp only [List.length_nil] at *
  go_wp2_with fail
  refine Calls.mono (HNX.out _ ?_) ?_
  · exact (hv.out.below B3)
  rintro e w4 ⟨vn, rfl, vn', b4⟩
  have B4 : Below w.heap.size w w4 := B3.trans (b4.mono B3.size)
  obtain ⟨an, cn, rfl, _⟩ := vn'.slice
  simp only [List.length_nil] at *
  have vqh := Lib.hid (vq'.below b4)
  have vnh := Lib.hid vn'
  have B4h := Lib.hid B4
  clear vq' vn' b1 b2 b3 b4 B2 B3 B4
  go_wp2_with fail
  refine (HP.out _).mono ?_
  rintro e w5 ⟨rfl, rfl⟩
  have K4 := Lib.hid (Below.refl w5.heap.size w5)
  have B9 := B4h
  go_wp2_with fail
  refine Calls.mono (HCK.out _ ?_) ?_
  · exact hv.out.below B9.out
  rintro e wA ⟨rfl, mA, rfl⟩
  go_wp2_with fail
  have h := B9.out
  go_ret
  exact ⟨rfl, (by repeat (first | exact Below.refl _ _ | assumption | (refine Below.drew ?_) | (refine below_drewN' ?_ _) | (refine below_alloc' ?_ _)))⟩

set_option maxRecDepth 100000 in
set_option maxHeartbeats 2000000 in
theorem places_11 (k : Nat) (q Q' X Y : Int) (B o c : Nat) (a b F X2 Y2 : Int) (w : World) (hk1 : 1 ≤ (k : Int)) (hk2 : (k : Int) ≤ 20)
    (hv : Hid (RdU w (.slice (some ⟨B, o, none⟩) 2 c) [a, b]))
    (C : Hid (w.cell? ⟨B, o, none⟩ = some (.int .u64 a) ∧ w.cell? ⟨B, o + 1, none⟩ = some (.int .u64 b)))
    (eF : IntKind.u64.wrap (F + 1) = F + 1)
    (hq : ¬ q < (F + 1))
    (HPL : Hid (∀ w, RdU w (.slice (some ⟨B, o, none⟩) 2 c) [a, b] → Calls Try.prog 31 #[.int .i64 k, (.slice (some ⟨B, o, none⟩) 2 c)] w fun e w' => e = .returned (.tuple #[.int .u64 F, .int .i64 0]) ∧ Below w.heap.size w w'))
    (HPT : Hid (∀ w, Calls Try.prog 30 #[.int .i64 k, .int .u64 q] w (RetPt w ([], 3))))
    (HNX : Hid (∀ w, RdU w (.slice (some ⟨B, o, none⟩) 2 c) [a, b] → Calls Try.prog 32 #[.int .i64 k, (.slice (some ⟨B, o, none⟩) 2 c)] w (RetNx w ([], false, 0))))
    (HP : Hid (∀ w, Calls Try.prog 29 #[.int .i64 (2 * (k : Int))] w fun e w' => e = .returned (.int .u64 (F + 1)) ∧ w' = w))
    (HCK : Hid (∀ w, RdU w (.slice (some ⟨B, o, none⟩) 2 c) [a, b] → Calls Try.prog 34 #[.int .i64 k, (.slice (some ⟨B, o, none⟩) 2 c)] w fun e w' => e = .returned (.int .i64 0) ∧ ∃ m, w' = w.drewN m))
    (HWS : Hid (∀ w, Calls Try.prog 30 #[.int .i64 k, .int .u64 F] w (RetPt w ([a, b], 0))))
    (HRL : Hid (∀ w, Calls Try.prog 35 #[.int .i64 k, .int .u64 a, .int .u64 b] w fun e w' => e = .returned (.int .u64 F) ∧ w' = w)) :
    Calls Try.prog 7 #[.int .i64 k, (.slice (some ⟨B, o, none⟩) 2 c), .int .u64 q] w fun e w' => e = .returned (.bool true) ∧ Below w.heap.size w w' := by
  go_enter Try.func7, Try.ntmps7
  go_wp2_with fail
  refine (awake30 _).mono ?_
  rintro e w1 ⟨rfl, b1⟩
  go_wp2_with fail
  refine Calls.mono (HPL.out _ ?_) ?_
  · exact (hv.out.below b1)
  rintro e w2 ⟨rfl, b2⟩
  have B2 : Below w.heap.size w w2 := b1.trans (b2.mono b1.size)
  go_wp2_with fail
  refine (HPT.out _).mono ?_
  rintro e w3 ⟨vq, rfl, vq', b3⟩
  have B3 : Below w.heap.size w w3 := B2.trans (b3.mono B2.size)
  obtain ⟨aq, cq, rfl, _⟩ := vq'.slice
  simp only [List.length_nil] at *
  go_wp2_with fail
  refine Calls.mono (HNX.out _ ?_) ?_
  · exact (hv.out.below B3)
  rintro e w4 ⟨vn, rfl, vn', b4⟩
  have B4 : Below w.heap.size w w4 := B3.trans (b4.mono B3.size)
  obtain ⟨an, cn, rfl, _⟩ := vn'.slice
  simp only [List.length_nil] at *
  have vqh := Lib.hid (vq'.below b4)
  have vnh := Lib.hid vn'
  have B4h := Lib.hid B4
  clear vq' vn' b1 b2 b3 b4 B2 B3 B4
  go_wp2_with fail
  refine (HP.out _).mono ?_
  rintro e w5 ⟨rfl, rfl⟩
  have K4 := Lib.hid (Below.refl w5.heap.size w5)
  have B9 := B4h
  go_wp2_with fail
  refine Calls.mono (HCK.out _ ?_) ?_
  · exact hv.out.below B9.out
  rintro e wA ⟨rfl, mA, rfl⟩
  go_wp2_with fail
  refine (HWS.out _).mono ?_
  rintro e wB ⟨vw, rfl, vw', bB⟩
  obtain ⟨Bw, ow, cw, rfl, _⟩ := vw'.of_two
  have bA : Below w5.heap.size w5 (w5.drewN mA) := below_drewN' (Below.refl _ _) _
  have bB' : Below w5.heap.size w5 wB := bA.trans (bB.mono bA.size)
  have BB := Lib.hid (B9.out.trans (bB'.mono B9.out.size))
  have bBh := Lib.hid bB'
  have d0 := Below.keeps BB.out _ _ C.out.1
  have d1 := Below.keeps BB.out _ _ C.out.2
  have vwh := Lib.hid vw'
  have pvh := Lib.hid (hv.out.below BB.out)
  clear bA bB bB' vw'
  go_wp2_with fail
  go_quiet ((first
    | (go_at_call 35; exact Calls.quiet_of_same ((HRL.out _).mono fun e w' ⟨h1, h2⟩ => ⟨h1, h2⟩))
    | (go_at_call 19; exact Calls.quiet_of (Same_true _ _ a b _ (RdU.drewN vwh.out _) (RdU.drewN pvh.out _)))))
  go_wp2_with fail
  refine (HP.out _).mono ?_
  rintro e wC ⟨rfl, rfl⟩
  go_wp2_with fail
  have h := BB.out
  go_ret
  exact ⟨rfl, (by repeat (first | exact Below.refl _ _ | assumption | (refine Below.drew ?_) | (refine below_drewN' ?_ _) | (refine below_alloc' ?_ _)))⟩

set_option maxRecDepth 100000 in
set_option maxHeartbeats 2000000 in
theorem places_12 (k : Nat) (q Q' X Y : Int) (B o c : Nat) (a b F X2 Y2 : Int) (w : World) (hk1 : 1 ≤ (k : Int)) (hk2 : (k : Int) ≤ 20)
    (hv : Hid (RdU w (.slice (some ⟨B, o, none⟩) 2 c) [a, b]))
    (C : Hid (w.cell? ⟨B, o, none⟩ = some (.int .u64 a) ∧ w.cell? ⟨B, o + 1, none⟩ = some (.int .u64 b)))
    (eF : IntKind.u64.wrap (F + 1) = F + 1)
    (hne : (F + 1 == Q') = false)
    (hq : ¬ q < Q')
    (HPL : Hid (∀ w, RdU w (.slice (some ⟨B, o, none⟩) 2 c) [a, b] → Calls Try.prog 31 #[.int .i64 k, (.slice (some ⟨B, o, none⟩) 2 c)] w fun e w' => e = .returned (.tuple #[.int .u64 F, .int .i64 0]) ∧ Below w.heap.size w w'))
    (HPT : Hid (∀ w, Calls Try.prog 30 #[.int .i64 k, .int .u64 q] w (RetPt w ([], 3))))
    (HNX : Hid (∀ w, RdU w (.slice (some ⟨B, o, none⟩) 2 c) [a, b] → Calls Try.prog 32 #[.int .i64 k, (.slice (some ⟨B, o, none⟩) 2 c)] w (RetNx w ([X2, Y2], true, 0))))
    (HP : Hid (∀ w, Calls Try.prog 29 #[.int .i64 (2 * (k : Int))] w fun e w' => e = .returned (.int .u64 Q') ∧ w' = w))
    (HCK : Hid (∀ w, RdU w (.slice (some ⟨B, o, none⟩) 2 c) [a, b] → Calls Try.prog 34 #[.int .i64 k, (.slice (some ⟨B, o, none⟩) 2 c)] w fun e w' => e = .returned (.int .i64 0) ∧ ∃ m, w' = w.drewN m))
    (HWS : Hid (∀ w, Calls Try.prog 30 #[.int .i64 k, .int .u64 F] w (RetPt w ([a, b], 0))))
    (HRL : Hid (∀ w, Calls Try.prog 35 #[.int .i64 k, .int .u64 a, .int .u64 b] w fun e w' => e = .returned (.int .u64 F) ∧ w' = w))
    (HRN : Hid (∀ w, Calls Try.prog 33 #[.int .i64 k, .int .u64 (F + 1)] w fun e w' => e = .returned (.tuple #[.int .u64 X2, .int .u64 Y2]) ∧ w' = w)) :
    Calls Try.prog 7 #[.int .i64 k, (.slice (some ⟨B, o, none⟩) 2 c), .int .u64 q] w fun e w' => e = .returned (.bool true) ∧ Below w.heap.size w w' := by
  go_enter Try.func7, Try.ntmps7
  go_wp2_with fail
  refine (awake30 _).mono ?_
  rintro e w1 ⟨rfl, b1⟩
  go_wp2_with fail
  refine Calls.mono (HPL.out _ ?_) ?_
  · exact (hv.out.below b1)
  rintro e w2 ⟨rfl, b2⟩
  have B2 : Below w.heap.size w w2 := b1.trans (b2.mono b1.size)
  go_wp2_with fail
  refine (HPT.out _).mono ?_
  rintro e w3 ⟨vq, rfl, vq', b3⟩
  have B3 : Below w.heap.size w w3 := B2.trans (b3.mono B2.size)
  obtain ⟨aq, cq, rfl, _⟩ := vq'.slice
  simp only [List.length_nil] at *
  go_wp2_with fail
  refine Calls.mono (HNX.out _ ?_) ?_
  · exact (hv.out.below B3)
  rintro e w4 ⟨vn, rfl, vn', b4⟩
  have B4 : Below w.heap.size w w4 := B3.trans (b4.mono B3.size)
  obtain ⟨Bn, on, cn, rfl, _⟩ := vn'.of_two
  have vqh := Lib.hid (vq'.below b4)
  have vnh := Lib.hid vn'
  have B4h := Lib.hid B4
  clear vq' vn' b1 b2 b3 b4 B2 B3 B4
  go_wp2_with fail
  refine (HP.out _).mono ?_
  rintro e w5 ⟨rfl, rfl⟩
  have K4 := Lib.hid (Below.refl w5.heap.size w5)
  have B9 := B4h
  go_wp2_with fail
  refine Calls.mono (HCK.out _ ?_) ?_
  · exact hv.out.below B9.out
  rintro e wA ⟨rfl, mA, rfl⟩
  go_wp2_with fail
  refine (HWS.out _).mono ?_
  rintro e wB ⟨vw, rfl, vw', bB⟩
  obtain ⟨Bw, ow, cw, rfl, _⟩ := vw'.of_two
  have bA : Below w5.heap.size w5 (w5.drewN mA) := below_drewN' (Below.refl _ _) _
  have bB' : Below w5.heap.size w5 wB := bA.trans (bB.mono bA.size)
  have BB := Lib.hid (B9.out.trans (bB'.mono B9.out.size))
  have bBh := Lib.hid bB'
  have d0 := Below.keeps BB.out _ _ C.out.1
  have d1 := Below.keeps BB.out _ _ C.out.2
  have vwh := Lib.hid vw'
  have pvh := Lib.hid (hv.out.below BB.out)
  clear bA bB bB' vw'
  go_wp2_with fail
  go_quiet ((first
    | (go_at_call 35; exact Calls.quiet_of_same ((HRL.out _).mono fun e w' ⟨h1, h2⟩ => ⟨h1, h2⟩))
    | (go_at_call 19; exact Calls.quiet_of (Same_true _ _ a b _ (RdU.drewN vwh.out _) (RdU.drewN pvh.out _)))))
  go_wp2_with fail
  refine (HP.out _).mono ?_
  rintro e wC ⟨rfl, rfl⟩
  go_wp2_with fail
  refine (HRN.out _).mono ?_
  rintro e wD ⟨rfl, rfl⟩
  go_wp2_with fail
  refine Calls.mono (Same_true _ _ X2 Y2 _ ?_ ?_) ?_
  · exact RdU.below (RdU.drewN ((vnh.out.below K4.out).below bBh.out) _) (Below.alloc (Below.refl _ _) (Nat.le_refl _) _)
  · exact RdU.new2 rfl
  rintro e wE ⟨rfl, mE, rfl⟩
  have h := BB.out
  go_wp2_with fail
  go_ret
  exact ⟨rfl, (by repeat (first | exact Below.refl _ _ | assumption | (refine Below.drew ?_) | (refine below_drewN' ?_ _) | (refine below_alloc' ?_ _)))⟩

set_option maxRecDepth 100000 in
set_option maxHeartbeats 2000000 in
theorem places_20 (k : Nat) (q Q' X Y : Int) (A : Option Addr) (l c : Nat) (xs : List Int) (cd : Int) (w : World) (hk1 : 1 ≤ (k : Int)) (hk2 : (k : Int) ≤ 20)
    (hv : Hid (RdU w (.slice A l c) xs))
    (hl : ¬ (l : Int) > 40)
    (hcd : (cd != 0) = true)
    (hq : q < Q')
    (HPL : Hid (∀ w, RdU w (.slice A l c) xs → Calls Try.prog 31 #[.int .i64 k, (.slice A l c)] w fun e w' => e = .returned (.tuple #[.int .u64 0, .int .i64 cd]) ∧ Below w.heap.size w w'))
    (HPT : Hid (∀ w, Calls Try.prog 30 #[.int .i64 k, .int .u64 q] w (RetPt w ([X, Y], 0))))
    (HNX : Hid (∀ w, RdU w (.slice A l c) xs → Calls Try.prog 32 #[.int .i64 k, (.slice A l c)] w (RetNx w ([], false, cd))))
    (HP : Hid (∀ w, Calls Try.prog 29 #[.int .i64 (2 * (k : Int))] w fun e w' => e = .returned (.int .u64 Q') ∧ w' = w))
    (HCK : Hid (∀ w, RdU w (.slice A l c) xs → Calls Try.prog 34 #[.int .i64 k, (.slice A l c)] w fun e w' => e = .returned (.int .i64 cd) ∧ ∃ m, w' = w.drewN m))
    (HRP : Hid (∀ w, Calls Try.prog 33 #[.int .i64 k, .int .u64 q] w fun e w' => e = .returned (.tuple #[.int .u64 X, .int .u64 Y]) ∧ w' = w))
    (HBK : Hid (∀ v w, RdU w v [X, Y] → Calls Try.prog 31 #[.int .i64 k, v] w fun e w' => e = .returned (.tuple #[.int .u64 q, .int .i64 0]) ∧ Below w.heap.size w w')) :
    Calls Try.prog 7 #[.int .i64 k, (.slice A l c), .int .u64 q] w fun e w' => e = .returned (.bool true) ∧ Below w.heap.size w w' := by
  go_enter Try.func7, Try.ntmps7
  go_wp2_with fail
  refine (awake30 _).mono ?_
  rintro e w1 ⟨rfl, b1⟩
  go_wp2_with fail
  refine Calls.mono (HPL.out _ ?_) ?_
  · exact (hv.out.below b1)
  rintro e w2 ⟨rfl, b2⟩
  have B2 : Below w.heap.size w w2 := b1.trans (b2.mono b1.size)
  go_wp2_with fail
  refine (HPT.out _).mono ?_
  rintro e w3 ⟨vq, rfl, vq', b3⟩
  have B3 : Below w.heap.size w w3 := B2.trans (b3.mono B2.size)
  obtain ⟨Bq, oq, cq, rfl, _⟩ := vq'.of_two
  go_wp2_with fail
  refine Calls.mono (HNX.out _ ?_) ?_
  · exact (hv.out.below B3)
  rintro e w4 ⟨vn, rfl, vn', b4⟩
  have B4 : Below w.heap.size w w4 := B3.trans (b4.mono B3.size)
  obtain ⟨an, cn, rfl, _⟩ := vn'.slice
  simp only [List.length_nil] at *
  have vqh := Lib.hid (vq'.below b4)
  have vnh := Lib.hid vn'
  have B4h := Lib.hid B4
  clear vq' vn' b1 b2 b3 b4 B2 B3 B4
  go_wp2_with fail
  refine (HP.out _).mono ?_
  rintro e w5 ⟨rfl, rfl⟩
  go_wp2_with fail
  refine (HRP.out _).mono ?_
  rintro e w6 ⟨rfl, rfl⟩
  go_wp2_with fail
  refine Calls.mono (HBK.out _ _ ?_) ?_
  · exact vqh.out
  rintro e w7 ⟨rfl, b7⟩
  have b7h := Lib.hid b7
  clear b7
  go_wp2_with fail
  refine Calls.mono (Same_true _ _ X Y _ ?_ ?_) ?_
  · exact ((vqh.out.below b7h.out).below (Below.alloc (Below.refl _ _) (Nat.le_refl _) _))
  · exact RdU.new2 rfl
  rintro e w8 ⟨rfl, hm8⟩
  have K4 := Lib.hid (show Below w6.heap.size w6 w8 by
    obtain ⟨m8, rfl⟩ := hm8
    have h := b7h.out
    exact below_drewN' (Below.alloc h h.size _) _)
  have B9 := Lib.hid (B4h.out.trans (K4.out.mono B4h.out.size))
  clear hm8
  go_wp2_with fail
  refine Calls.mono (HCK.out _ ?_) ?_
  · exact hv.out.below B9.out
  rintro e wA ⟨rfl, mA, rfl⟩
  go_wp2_with fail
  have h := B9.out
  go_ret
  exact ⟨rfl, (by repeat (first | exact Below.refl _ _ | assumption | (refine Below.drew ?_) | (refine below_drewN' ?_ _) | (refine below_alloc' ?_ _)))⟩

set_option maxRecDepth 100000 in
set_option maxHeartbeats 2000000 in
theorem places_21 (k : Nat) (q Q' X Y : Int) (B o c : Nat) (a b F X2 Y2 : Int) (w : World) (hk1 : 1 ≤ (k : Int)) (hk2 : (k : Int) ≤ 20)
    (hv : Hid (RdU w (.slice (some ⟨B, o, none⟩) 2 c) [a, b]))
    (C : Hid (w.cell? ⟨B, o, none⟩ = some (.int .u64 a) ∧ w.cell? ⟨B, o + 1, none⟩ = some (.int .u64 b)))
    (eF : IntKind.u64.wrap (F + 1) = F + 1)
    (hq : q < (F + 1))
    (HPL : Hid (∀ w, RdU w (.slice (some ⟨B, o, none⟩) 2 c) [a, b] → Calls Try.prog 31 #[.int .i64 k, (.slice (some ⟨B, o, none⟩) 2 c)] w fun e w' => e = .returned (.tuple #[.int .u64 F, .int .i64 0]) ∧ Below w.heap.size w w'))
    (HPT : Hid (∀ w, Calls Try.prog 30 #[.int .i64 k, .int .u64 q] w (RetPt w ([X, Y], 0))))
    (HNX : Hid (∀ w, RdU w (.slice (some ⟨B, o, none⟩) 2 c) [a, b] → Calls Try.prog 32 #[.int .i64 k, (.slice (some ⟨B, o, none⟩) 2 c)] w (RetNx w ([], false, 0))))
    (HP : Hid (∀ w, Calls Try.prog 29 #[.int .i64 (2 * (k : Int))] w fun e w' => e = .returned (.int .u64 (F + 1)) ∧ w' = w))
    (HCK : Hid (∀ w, RdU w (.slice (some ⟨B, o, none⟩) 2 c) [a, b] → Calls Try.prog 34 #[.int .i64 k, (.slice (some ⟨B, o, none⟩) 2 c)] w fun e w' => e = .returned (.int .i64 0) ∧ ∃ m, w' = w.drewN m))
    (HRP : Hid (∀ w, Calls Try.prog 33 #[.int .i64 k, .int .u64 q] w fun e w' => e = .returned (.tuple #[.int .u64 X, .int .u64 Y]) ∧ w' = w))
    (HBK : Hid (∀ v w, RdU w v [X, Y] → Calls Try.prog 31 #[.int .i64 k, v] w fun e w' => e = .returned (.tuple #[.int .u64 q, .int .i64 0]) ∧ Below w.heap.size w w'))
    (HWS : Hid (∀ w, Calls Try.prog 30 #[.int .i64 k, .int .u64 F] w (RetPt w ([a, b], 0))))
    (HRL : Hid (∀ w, Calls Try.prog 35 #[.int .i64 k, .int .u64 a, .int .u64 b] w fun e w' => e = .returned (.int .u64 F) ∧ w' = w)) :
    Calls Try.prog 7 #[.int .i64 k, (.slice (some ⟨B, o, none⟩) 2 c), .int .u64 q] w fun e w' => e = .returned (.bool true) ∧ Below w.heap.size w w' := by
  go_enter Try.func7, Try.ntmps7
  go_wp2_with fail
  refine (awake30 _).mono ?_
  rintro e w1 ⟨rfl, b1⟩
  go_wp2_with fail
  refine Calls.mono (HPL.out _ ?_) ?_
  · exact (hv.out.below b1)
  rintro e w2 ⟨rfl, b2⟩
  have B2 : Below w.heap.size w w2 := b1.trans (b2.mono b1.size)
  go_wp2_with fail
  refine (HPT.out _).mono ?_
  rintro e w3 ⟨vq, rfl, vq', b3⟩
  have B3 : Below w.heap.size w w3 := B2.trans (b3.mono B2.size)
  obtain ⟨Bq, oq, cq, rfl, _⟩ := vq'.of_two
  go_wp2_with fail
  refine Calls.mono (HNX.out _ ?_) ?_
  · exact (hv.out.below B3)
  rintro e w4 ⟨vn, rfl, vn', b4⟩
  have B4 : Below w.heap.size w w4 := B3.trans (b4.mono B3.size)
  obtain ⟨an, cn, rfl, _⟩ := vn'.slice
  simp only [List.length_nil] at *
  have vqh := Lib.hid (vq'.below b4)
  have vnh := Lib.hid vn'
  have B4h := Lib.hid B4
  clear vq' vn' b1 b2 b3 b4 B2 B3 B4
  go_wp2_with fail
  refine (HP.out _).mono ?_
  rintro e w5 ⟨rfl, rfl⟩
  go_wp2_with fail
  refine (HRP.out _).mono ?_
  rintro e w6 ⟨rfl, rfl⟩
  go_wp2_with fail
  refine Calls.mono (HBK.out _ _ ?_) ?_
  · exact vqh.out
  rintro e w7 ⟨rfl, b7⟩
  have b7h := Lib.hid b7
  clear b7
  go_wp2_with fail
  refine Calls.mono (Same_true _ _ X Y _ ?_ ?_) ?_
  · exact ((vqh.out.below b7h.out).below (Below.alloc (Below.refl _ _) (Nat.le_refl _) _))
  · exact RdU.new2 rfl
  rintro e w8 ⟨rfl, hm8⟩
  have K4 := Lib.hid (show Below w6.heap.size w6 w8 by
    obtain ⟨m8, rfl⟩ := hm8
    have h := b7h.out
    exact below_drewN' (Below.alloc h h.size _) _)
  have B9 := Lib.hid (B4h.out.trans (K4.out.mono B4h.out.size))
  clear hm8
  go_wp2_with fail
  refine Calls.mono (HCK.out _ ?_) ?_
  · exact hv.out.below B9.out
  rintro e wA ⟨rfl, mA, rfl⟩
  go_wp2_with fail
  refine (HWS.out _).mono ?_
  rintro e wB ⟨vw, rfl, vw', bB⟩
  obtain ⟨Bw, ow, cw, rfl, _⟩ := vw'.of_two
  have bA : Below w8.heap.size w8 (w8.drewN mA) := below_drewN' (Below.refl _ _) _
  have bB' : Below w8.heap.size w8 wB := bA.trans (bB.mono bA.size)
  have BB := Lib.hid (B9.out.trans (bB'.mono B9.out.size))
  have bBh := Lib.hid bB'
  have d0 := Below.keeps BB.out _ _ C.out.1
  have d1 := Below.keeps BB.out _ _ C.out.2
  have vwh := Lib.hid vw'
  have pvh := Lib.hid (hv.out.below BB.out)
  clear bA bB bB' vw'
  go_wp2_with fail
  go_quiet ((first
    | (go_at_call 35; exact Calls.quiet_of_same ((HRL.out _).mono fun e w' ⟨h1, h2⟩ => ⟨h1, h2⟩))
    | (go_at_call 19; exact Calls.quiet_of (Same_true _ _ a b _ (RdU.drewN vwh.out _) (RdU.drewN pvh.out _)))))
  go_wp2_with fail
  refine (HP.out _).mono ?_
  rintro e wC ⟨rfl, rfl⟩
  go_wp2_with fail
  have h := BB.out
  go_ret
  exact ⟨rfl, (by repeat (first | exact Below.refl _ _ | assumption | (refine Below.drew ?_) | (refine below_drewN' ?_ _) | (refine below_alloc' ?_ _)))⟩

set_option maxRecDepth 100000 in
set_option maxHeartbeats 2000000 in
theorem places_22 (k : Nat) (q Q' X Y : Int) (B o c : Nat) (a b F X2 Y2 : Int) (w : World) (hk1 : 1 ≤ (k : Int)) (hk2 : (k : Int) ≤ 20)
    (hv : Hid (RdU w (.slice (some ⟨B, o, none⟩) 2 c) [a, b]))
    (C : Hid (w.cell? ⟨B, o, none⟩ = some (.int .u64 a) ∧ w.cell? ⟨B, o + 1, none⟩ = some (.int .u64 b)))
    (eF : IntKind.u64.wrap (F + 1) = F + 1)
    (hne : (F + 1 == Q') = false)
    (hq : q < Q')
    (HPL : Hid (∀ w, RdU w (.slice (some ⟨B, o, none⟩) 2 c) [a, b] → Calls Try.prog 31 #[.int .i64 k, (.slice (some ⟨B, o, none⟩) 2 c)] w fun e w' => e = .returned (.tuple #[.int .u64 F, .int .i64 0]) ∧ Below w.heap.size w w'))
    (HPT : Hid (∀ w, Calls Try.prog 30 #[.int .i64 k, .int .u64 q] w (RetPt w ([X, Y], 0))))
    (HNX : Hid (∀ w, RdU w (.slice (some ⟨B, o, none⟩) 2 c) [a, b] → Calls Try.prog 32 #[.int .i64 k, (.slice (some ⟨B, o, none⟩) 2 c)] w (RetNx w ([X2, Y2], true, 0))))
    (HP : Hid (∀ w, Calls Try.prog 29 #[.int .i64 (2 * (k : Int))] w fun e w' => e = .returned (.int .u64 Q') ∧ w' = w))
    (HCK : Hid (∀ w, RdU w (.slice (some ⟨B, o, none⟩) 2 c) [a, b] → Calls Try.prog 34 #[.int .i64 k, (.slice (some ⟨B, o, none⟩) 2 c)] w fun e w' => e = .returned (.int .i64 0) ∧ ∃ m, w' = w.drewN m))
    (HRP : Hid (∀ w, Calls Try.prog 33 #[.int .i64 k, .int .u64 q] w fun e w' => e = .returned (.tuple #[.int .u64 X, .int .u64 Y]) ∧ w' = w))
    (HBK : Hid (∀ v w, RdU w v [X, Y] → Calls Try.prog 31 #[.int .i64 k, v] w fun e w' => e = .returned (.tuple #[.int .u64 q, .int .i64 0]) ∧ Below w.heap.size w w'))
    (HWS : Hid (∀ w, Calls Try.prog 30 #[.int .i64 k, .int .u64 F] w (RetPt w ([a, b], 0))))
    (HRL : Hid (∀ w, Calls Try.prog 35 #[.int .i64 k, .int .u64 a, .int .u64 b] w fun e w' => e = .returned (.int .u64 F) ∧ w' = w))
    (HRN : Hid (∀ w, Calls Try.prog 33 #[.int .i64 k, .int .u64 (F + 1)] w fun e w' => e = .returned (.tuple #[.int .u64 X2, .int .u64 Y2]) ∧ w' = w)) :
    Calls Try.prog 7 #[.int .i64 k, (.slice (some ⟨B, o, none⟩) 2 c), .int .u64 q] w fun e w' => e = .returned (.bool true) ∧ Below w.heap.size w w' := by
  go_enter Try.func7, Try.ntmps7
  go_wp2_with fail
  refine (awake30 _).mono ?_
  rintro e w1 ⟨rfl, b1⟩
  go_wp2_with fail
  refine Calls.mono (HPL.out _ ?_) ?_
  · exact (hv.out.below b1)
  rintro e w2 ⟨rfl, b2⟩
  have B2 : Below w.heap.size w w2 := b1.trans (b2.mono b1.size)
  go_wp2_with fail
  refine (HPT.out _).mono ?_
  rintro e w3 ⟨vq, rfl, vq', b3⟩
  have B3 : Below w.heap.size w w3 := B2.trans (b3.mono B2.size)
  obtain ⟨Bq, oq, cq, rfl, _⟩ := vq'.of_two
  go_wp2_with fail
  refine Calls.mono (HNX.out _ ?_) ?_
  · exact (hv.out.below B3)
  rintro e w4 ⟨vn, rfl, vn', b4⟩
  have B4 : Below w.heap.size w w4 := B3.trans (b4.mono B3.size)
  obtain ⟨Bn, on, cn, rfl, _⟩ := vn'.of_two
  have vqh := Lib.hid (vq'.below b4)
  have vnh := Lib.hid vn'
  have B4h := Lib.hid B4
  clear vq' vn' b1 b2 b3 b4 B2 B3 B4
  go_wp2_with fail
  refine (HP.out _).mono ?_
  rintro e w5 ⟨rfl, rfl⟩
  go_wp2_with fail
  refine (HRP.out _).mono ?_
  rintro e w6 ⟨rfl, rfl⟩
  go_wp2_with fail
  refine Calls.mono (HBK.out _ _ ?_) ?_
  · exact vqh.out
  rintro e w7 ⟨rfl, b7⟩
  have b7h := Lib.hid b7
  clear b7
  go_wp2_with fail
  refine Calls.mono (Same_true _ _ X Y _ ?_ ?_) ?_
  · exact ((vqh.out.below b7h.out).below (Below.alloc (Below.refl _ _) (Nat.le_refl _) _))
  · exact RdU.new2 rfl
  rintro e w8 ⟨rfl, hm8⟩
  have K4 := Lib.hid (show Below w6.heap.size w6 w8 by
    obtain ⟨m8, rfl⟩ := hm8
    have h := b7h.out
    exact below_drewN' (Below.alloc h h.size _) _)
  have B9 := Lib.hid (B4h.out.trans (K4.out.mono B4h.out.size))
  clear hm8
  go_wp2_with fail
  refine Calls.mono (HCK.out _ ?_) ?_
  · exact hv.out.below B9.out
  rintro e wA ⟨rfl, mA, rfl⟩
  go_wp2_with fail
  refine (HWS.out _).mono ?_
  rintro e wB ⟨vw, rfl, vw', bB⟩
  obtain ⟨Bw, ow, cw, rfl, _⟩ := vw'.of_two
  have bA : Below w8.heap.size w8 (w8.drewN mA) := below_drewN' (Below.refl _ _) _
  have bB' : Below w8.heap.size w8 wB := bA.trans (bB.mono bA.size)
  have BB := Lib.hid (B9.out.trans (bB'.mono B9.out.size))
  have bBh := Lib.hid bB'
  have d0 := Below.keeps BB.out _ _ C.out.1
  have d1 := Below.keeps BB.out _ _ C.out.2
  have vwh := Lib.hid vw'
  have pvh := Lib.hid (hv.out.below BB.out)
  clear bA bB bB' vw'
  go_wp2_with fail
  go_quiet ((first
    | (go_at_call 35; exact Calls.quiet_of_same ((HRL.out _).mono fun e w' ⟨h1, h2⟩ => ⟨h1, h2⟩))
    | (go_at_call 19; exact Calls.quiet_of (Same_true _ _ a b _ (RdU.drewN vwh.out _) (RdU.drewN pvh.out _)))))
  go_wp2_with fail
  refine (HP.out _).mono ?_
  rintro e wC ⟨rfl, rfl⟩
  go_wp2_with fail
  refine (HRN.out _).mono ?_
  rintro e wD ⟨rfl, rfl⟩
  go_wp2_with fail
  refine Calls.mono (Same_true _ _ X2 Y2 _ ?_ ?_) ?_
  · exact RdU.below (RdU.drewN ((vnh.out.below K4.out).below bBh.out) _) (Below.alloc (Below.refl _ _) (Nat.le_refl _) _)
  · exact RdU.new2 rfl
  rintro e wE ⟨rfl, mE, rfl⟩
  have h := BB.out
  go_wp2_with fail
  go_ret
  exact ⟨rfl, (by repeat (first | exact Below.refl _ _ | assumption | (refine Below.drew ?_) | (refine below_drewN' ?_ _) | (refine below_alloc' ?_ _)))⟩

end Go.Proofs.Ytlmgabhdeeehmaa
