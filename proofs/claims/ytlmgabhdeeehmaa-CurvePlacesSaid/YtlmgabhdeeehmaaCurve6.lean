/-
  The walks of package curve: Place, Point, Next.
-/
import Derived.Test.YtlmgabhdeeehmaaCurve4
import Derived.Test.YtlmgabhdeeehmaaCurve5
namespace Go.Proofs.Ytlmgabhdeeehmaa
open Go.RowKit
set_option linter.unusedVariables false

def Cv.placeR (n : Int) (p : List Int) : Int × Int := if Cv.checkR n p = 0 then (match p with | [a, b] => (Cv.pl n.toNat a b, 0) | _ => (0, 0)) else (0, Cv.checkR n p)
def Cv.pointR (n : Int) (p : Int) : List Int × Int := if n < 1 ∨ 20 < n ∨ Cv.Q n.toNat ≤ p then ([], 3) else ([(Cv.pt n.toNat p).1, (Cv.pt n.toNat p).2], 0)
def Cv.nextR (n : Int) (p : List Int) : List Int × Bool × Int := if Cv.checkR n p = 0 then ((Cv.pointR n ((Cv.placeR n p).1 + 1)).1, (Cv.pointR n ((Cv.placeR n p).1 + 1)).2 == 0, 0) else ([], false, Cv.checkR n p)

/-- what 'check' lets through -/
theorem Cv.checkR_ok {n : Int} {p : List Int} (h : Cv.checkR n p = 0) : ∃ (k : Nat) (a b : Int), n = k ∧ 1 ≤ k ∧ k ≤ 20 ∧ p = [a, b] ∧ a < Cv.S k ∧ b < Cv.S k := by
  unfold Cv.checkR at h
  split at h
  · omega
  · split at h
    · rename_i a b
      split at h
      · refine ⟨n.toNat, a, b, by omega, by omega, by omega, rfl, ?_⟩; assumption
      · omega
    · omega

set_option maxHeartbeats 400000 in
theorem Place_code (n : Int) (v : Value) (p : List Int) (c : Int) (w : World) (hv : RdU w v p) (hp : ∀ z ∈ p, 0 ≤ z) (hc : Cv.checkR n p = c) (h0 : (c != 0) = true) :
    Calls Try.prog 31 #[.int .i64 n, v] w fun e w' => e = .returned (.tuple #[.int .u64 0, .int .i64 c]) ∧ Below w.heap.size w w' := by
  have H := Lib.hid (fun w hv => check_any n v p w hv hp)
  rw [hc] at H
  have hv := Lib.hid hv
  clear hc hp
  go_enter Try.func31, Try.ntmps31
  go_wp2_with fail
  refine (H.out _ hv.out).mono ?_
  rintro e w' ⟨rfl, m, rfl⟩
  go_wp2_with fail
  go_ret2
  exact ⟨rfl, (by repeat (first | exact Below.refl _ _ | assumption | (refine Below.drew ?_) | (refine below_drewN' ?_ _) | (refine below_alloc' ?_ _)))⟩

set_option maxHeartbeats 400000 in
theorem Place_fine (k : Nat) (v : Value) (a b : Int) (w : World) (hv : RdU w v [a, b]) (ha : 0 ≤ a ∧ a < Cv.S k) (hb : 0 ≤ b ∧ b < Cv.S k) (hk : 1 ≤ k ∧ k ≤ 20) :
    Calls Try.prog 31 #[.int .i64 k, v] w fun e w' => e = .returned (.tuple #[.int .u64 (Cv.pl k a b), .int .i64 0]) ∧ Below w.heap.size w w' := by
  have hS := Cv.S_le hk.2
  have H := Lib.hid (fun w hv => check_any k v [a, b] w hv (by simp; omega))
  rw [Cv.checkR_two a b hk, if_pos ⟨ha.2, hb.2⟩] at H
  have hs : decide (max a b < 1048576) = true := by simp; omega
  have HP := Lib.hid (fun w => place_any k _ _ a b w hk.2 ha hb (Val.ofInt (abs_lt _ (by omega))) (Val.ofInt (abs_lt _ (by omega))))
  obtain ⟨B, o, c, rfl, c0, c1⟩ := hv.of_two
  have hv := Lib.hid hv
  have hs := Lib.hid hs
  have C := Lib.hid (And.intro c0 c1)
  clear ha hb hk hS c0 c1
  go_enter Try.func31, Try.ntmps31
  go_wp2_with fail
  refine (H.out _ hv.out).mono ?_
  rintro e w' ⟨rfl, m, rfl⟩
  go_wp2_with fail
  refine Calls.mono (Number_fine B o c a b _ ?_ ?_ hs.out) ?_
  · simpa using C.out.1
  · simpa using C.out.2
  rintro e w' ⟨rfl, m2, rfl⟩
  go_wp2_with fail
  refine Calls.mono (HP.out _) ?_
  rintro e w1 ⟨rfl, hb1⟩
  go_wp2_with fail
  go_ret2
  have h1 : Below w.heap.size w (w.drewN (m + m2)) := (by repeat (first | exact Below.refl _ _ | assumption | (refine Below.drew ?_) | (refine below_drewN' ?_ _) | (refine below_alloc' ?_ _)))
  exact ⟨rfl, h1.trans (hb1.mono (B' := w.heap.size) (by simp))⟩

theorem Place_any (n : Int) (v : Value) (p : List Int) (w : World) (hv : RdU w v p) (hp : ∀ z ∈ p, 0 ≤ z) :
    Calls Try.prog 31 #[.int .i64 n, v] w fun e w' => e = .returned (.tuple #[.int .u64 (Cv.placeR n p).1, .int .i64 (Cv.placeR n p).2]) ∧ Below w.heap.size w w' := by
  unfold Cv.placeR
  by_cases h : Cv.checkR n p = 0
  · obtain ⟨k, a, b, rfl, h1, h2, rfl, ha, hb⟩ := Cv.checkR_ok h
    rw [if_pos h]
    simp only [Int.toNat_natCast]
    exact Place_fine k v a b w hv ⟨hp a (by simp), ha⟩ ⟨hp b (by simp), hb⟩ ⟨h1, h2⟩
  · rw [if_neg h]
    exact Place_code n v p _ w hv hp rfl (by simpa using h)

set_option maxHeartbeats 400000 in
theorem Point_low (n p : Int) (w : World) (h : n < 1) :
    Calls Try.prog 30 #[.int .i64 n, .int .u64 p] w (RetPt w ([], 3)) := by
  go_enter Try.func30, Try.ntmps30
  go_wp2_with fail
  go_ret2
  exact ⟨_, rfl, RdU.nil _ _ _, (by repeat (first | exact Below.refl _ _ | assumption | (refine Below.drew ?_) | (refine below_drewN' ?_ _) | (refine below_alloc' ?_ _)))⟩
set_option maxHeartbeats 400000 in
theorem Point_high (n p : Int) (w : World) (h : ¬ n < 1) (h' : n > 20) :
    Calls Try.prog 30 #[.int .i64 n, .int .u64 p] w (RetPt w ([], 3)) := by
  go_enter Try.func30, Try.ntmps30
  go_wp2_with fail
  go_ret2
  exact ⟨_, rfl, RdU.nil _ _ _, (by repeat (first | exact Below.refl _ _ | assumption | (refine Below.drew ?_) | (refine below_drewN' ?_ _) | (refine below_alloc' ?_ _)))⟩
set_option maxHeartbeats 400000 in
theorem Point_great (k : Nat) (p : Int) (w : World) (hk : 1 ≤ k ∧ k ≤ 20) (hp : Cv.Q k ≤ p) :
    Calls Try.prog 30 #[.int .i64 k, .int .u64 p] w (RetPt w ([], 3)) := by
  have h : ¬ (k : Int) < 1 := by omega
  have h' : ¬ (k : Int) > 20 := by omega
  have hz : (p / 2 ^ (2 * k) != 0) = true := by
    rw [← Q_eq]
    have : 1 ≤ p / Cv.Q k := Int.le_ediv_of_mul_le (Cv.Q_pos k) (by omega)
    simp; omega
  clear hk hp
  go_enter Try.func30, Try.ntmps30
  go_wp2_with fail
  go_ret2
  exact ⟨_, rfl, RdU.nil _ _ _, (by repeat (first | exact Below.refl _ _ | assumption | (refine Below.drew ?_) | (refine below_drewN' ?_ _) | (refine below_alloc' ?_ _)))⟩
set_option maxHeartbeats 400000 in
theorem Point_fine (k : Nat) (p : Int) (w : World) (hk : 1 ≤ k ∧ k ≤ 20) (hp : 0 ≤ p ∧ p < Cv.Q k) :
    Calls Try.prog 30 #[.int .i64 k, .int .u64 p] w (RetPt w ([(Cv.pt k p).1, (Cv.pt k p).2], 0)) := by
  have h : ¬ (k : Int) < 1 := by omega
  have h' : ¬ (k : Int) > 20 := by omega
  have hz : (p / 2 ^ (2 * k) != 0) = false := by rw [← Q_eq, Int.ediv_eq_zero_of_lt hp.1 hp.2]; rfl
  have hr := Cv.pt_range k p
  have hS := Cv.S_le hk.2
  have HN := Lib.hid (fun w => number_any k p w hk.2 ⟨hp.1, by have := Cv.Q_le hk.2; omega⟩)
  rw [Int.emod_eq_of_lt hp.1 hp.2] at HN
  generalize (Cv.pt k p) = XY at *
  obtain ⟨X, Y⟩ := XY
  have HX := Lib.hid (show Pl.coordB X = true by unfold Pl.coordB; simp at hr ⊢; omega)
  have HY := Lib.hid (show Pl.coordB Y = true by unfold Pl.coordB; simp at hr ⊢; omega)
  clear hk hp hr hS
  go_enter Try.func30, Try.ntmps30
  go_wp2_with fail
  refine (HN.out _).mono ?_
  rintro e w1 ⟨r, i, rfl, g1, g2, hb⟩
  go_wp2_with fail
  refine (Point_yes r i X Y _ g1 g2 HX.out HY.out).mono ?_
  rintro e w2 ⟨rfl, rfl⟩
  go_wp2_with fail
  go_ret2
  exact ⟨_, rfl, RdU.new2 rfl, hb.alloc hb.size _⟩

theorem Point_any (n p : Int) (w : World) (hp : 0 ≤ p) :
    Calls Try.prog 30 #[.int .i64 n, .int .u64 p] w (RetPt w (Cv.pointR n p)) := by
  unfold Cv.pointR
  by_cases h1 : n < 1
  · rw [if_pos (.inl h1)]; exact Point_low n p w h1
  by_cases h2 : n > 20
  · rw [if_pos (.inr (.inl h2))]; exact Point_high n p w h1 h2
  obtain ⟨k, rfl⟩ : ∃ k : Nat, n = k := ⟨n.toNat, by omega⟩
  simp only [Int.toNat_natCast]
  by_cases h3 : Cv.Q k ≤ p
  · rw [if_pos (.inr (.inr h3))]; exact Point_great k p w (by omega) h3
  · rw [if_neg (by omega)]; exact Point_fine k p w (by omega) (by omega)

/-- a point, whether there is one, and a code are handed back -/
def RetNx (w : World) (r : List Int × Bool × Int) (e : Ending) (w' : World) : Prop :=
  ∃ v', e = .returned (.tuple #[v', .bool r.2.1, .int .i64 r.2.2]) ∧ RdU w' v' r.1 ∧ Below w.heap.size w w'

set_option maxHeartbeats 400000 in
theorem Next_code (n : Int) (v : Value) (p : List Int) (c : Int) (w : World) (hv : RdU w v p) (hp : ∀ z ∈ p, 0 ≤ z) (hc : Cv.placeR n p = (0, c)) (h0 : (c != 0) = true) :
    Calls Try.prog 32 #[.int .i64 n, v] w (RetNx w ([], false, c)) := by
  have H := Lib.hid (fun w hv => Place_any n v p w hv hp)
  rw [hc] at H
  have hv := Lib.hid hv
  clear hc hp
  go_enter Try.func32, Try.ntmps32
  go_wp2_with fail
  refine (H.out _ hv.out).mono ?_
  rintro e w1 ⟨rfl, hb⟩
  go_wp2_with fail
  go_ret3
  exact ⟨_, rfl, RdU.nil _ _ _, hb⟩

set_option maxHeartbeats 400000 in
theorem Next_fine (n at' : Int) (v : Value) (p : List Int) (q : List Int × Int) (w : World) (hv : RdU w v p) (hp : ∀ z ∈ p, 0 ≤ z) (hc : Cv.placeR n p = (at', 0)) (hq : Cv.pointR n (at' + 1) = q) (h0 : 0 ≤ at' ∧ at' < 2199023255552) :
    Calls Try.prog 32 #[.int .i64 n, v] w (RetNx w (q.1, q.2 == 0, 0)) := by
  have H := Lib.hid (fun w hv => Place_any n v p w hv hp)
  rw [hc] at H
  have HQ := Lib.hid (fun w => Point_any n (at' + 1) w (by omega))
  rw [hq] at HQ
  have hw : IntKind.u64.wrap (at' + 1) = at' + 1 := wrap_u64 (by omega) (by omega)
  have hv := Lib.hid hv
  obtain ⟨ql, qc⟩ := q
  clear hc hp hq h0
  go_enter Try.func32, Try.ntmps32
  go_wp2_with fail
  refine (H.out _ hv.out).mono ?_
  rintro e w1 ⟨rfl, hb⟩
  go_wp2_with fail
  refine (HQ.out _).mono ?_
  rintro e w2 ⟨v2, rfl, hv2, hb2⟩
  go_wp2_with fail
  go_ret3
  exact ⟨_, rfl, hv2, hb.trans (hb2.mono hb.size)⟩

theorem Cv.placeR_le (n : Int) (p : List Int) (hp : ∀ z ∈ p, 0 ≤ z) (h : Cv.checkR n p = 0) : 0 ≤ (Cv.placeR n p).1 ∧ (Cv.placeR n p).1 < 2199023255552 := by
  obtain ⟨k, a, b, rfl, h1, h2, rfl, ha, hb⟩ := Cv.checkR_ok h
  unfold Cv.placeR
  rw [if_pos h]
  simp only [Int.toNat_natCast]
  have := Cv.pl_range k a b ⟨hp a (by simp), ha⟩ ⟨hp b (by simp), hb⟩
  have := Cv.Q_le h2
  omega
theorem Next_any (n : Int) (v : Value) (p : List Int) (w : World) (hv : RdU w v p) (hp : ∀ z ∈ p, 0 ≤ z) :
    Calls Try.prog 32 #[.int .i64 n, v] w (RetNx w (Cv.nextR n p)) := by
  unfold Cv.nextR
  by_cases h : Cv.checkR n p = 0
  · rw [if_pos h]
    refine Next_fine n _ v p _ w hv hp ?_ rfl (Cv.placeR_le n p hp h)
    obtain ⟨k, a, b, rfl, h1, h2, rfl, ha, hb⟩ := Cv.checkR_ok h
    unfold Cv.placeR
    rw [if_pos h]
  · rw [if_neg h]
    refine Next_code n v p _ w hv hp ?_ (by simpa using h)
    unfold Cv.placeR
    rw [if_neg h]
end Go.Proofs.Ytlmgabhdeeehmaa
