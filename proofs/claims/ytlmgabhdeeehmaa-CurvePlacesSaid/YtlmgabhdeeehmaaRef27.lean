/-
  The walks of package pantileref27, and the example of chapter 27.
-/
import Derived.Test.YtlmgabhdeeehmaaPlane2
import Derived.Test.YtlmgabhdeeehmaaRef01
namespace Go.Proofs.Ytlmgabhdeeehmaa
open Go.RowKit
set_option linter.unusedVariables false

theorem len_two {n : Nat} (h : n = 2) : ((n : Int) == 2) = true := by simp; omega
theorem len_not_two {n : Nat} (h : n ≠ 2) : ((n : Int) == 2) = false := by simp; omega

set_option maxHeartbeats 400000 in
theorem Small_any (v : Value) (p : List Int) (w : World) (hv : RdU w v p) :
    Calls Try.prog 17 #[v] w fun e w' => e = .returned (.bool (Pl.smallB p)) ∧ w = w' := by
  by_cases hl : p.length = 2
  · obtain ⟨a, b, rfl⟩ : ∃ a b, p = [a, b] := by
      match p, hl with
      | [a, b], _ => exact ⟨a, b, rfl⟩
    obtain ⟨B, o, c, rfl, h0, h1⟩ := hv.of_two
    clear hv hl
    have e : Pl.smallB [a, b] = (decide (a < 1048576) && decide (b < 1048576)) := by simp [Pl.smallB]
    rw [e]; clear e
    by_cases ha : a < 1048576
    · have h2 : decide (a < 1048576) = true := by simpa using ha
      go_enter Try.func17, Try.ntmps17
      go_wp2
      go_ret
      exact ⟨ret_bool (by rw [h2]; simp), rfl⟩
    · have h2 : decide (a < 1048576) = false := by simpa using ha
      go_enter Try.func17, Try.ntmps17
      go_wp2
      go_ret
      exact ⟨ret_bool (by first | rfl | (rw [h2]; simp)), rfl⟩
  · have e : Pl.smallB p = false := by
      match p, hl with
      | [], _ => rfl
      | [_], _ => rfl
      | _ :: _ :: _ :: _, _ => rfl
      | [_, _], h => exact absurd rfl h
    rw [e]
    obtain ⟨A, c, rfl, _⟩ := hv.slice
    have h2 := len_not_two hl
    clear hl e hv
    go_enter Try.func17, Try.ntmps17
    go_wp2
    go_ret
    exact ⟨rfl, rfl⟩

theorem rot_step {k x y : Int} (h0 : 0 ≤ k) (h3 : k < 3) : Pl.rotX (k + 1) x y = -(Pl.rotY k x y) ∧ Pl.rotY (k + 1) x y = Pl.rotX k x y := by
  have : k = 0 ∨ k = 1 ∨ k = 2 := by omega
  rcases this with rfl | rfl | rfl <;> simp [Pl.rotX, Pl.rotY]
theorem rot_bound {k x y : Int} (hx : -1099511627776 ≤ x ∧ x ≤ 1099511627776) (hy : -1099511627776 ≤ y ∧ y ≤ 1099511627776) :
    (-1099511627776 ≤ Pl.rotX k x y ∧ Pl.rotX k x y ≤ 1099511627776) ∧ (-1099511627776 ≤ Pl.rotY k x y ∧ Pl.rotY k x y ≤ 1099511627776) := by
  unfold Pl.rotX Pl.rotY
  constructor <;> (repeat' split) <;> omega

set_option maxHeartbeats 800000 in
theorem Turned_plain (t x y : Int) (w : World) (h0 : 0 ≤ t) (h3 : t ≤ 3) (hx : -1099511627776 ≤ x ∧ x ≤ 1099511627776) (hy : -1099511627776 ≤ y ∧ y ≤ 1099511627776) :
    Calls Try.prog 25 #[.int .i64 t, .bool false, .int .i64 x, .int .i64 y] w fun e w' => e = .returned (.tuple #[.int .i64 (Pl.rotX t x y), .int .i64 (Pl.rotY t x y)]) ∧ w = w' := by
  go_enter Try.func25, Try.ntmps25
  go_wp2
  go_loop [2, 3, 10] (fun a b i => ∃ k : Int, 0 ≤ k ∧ k ≤ t ∧ i = .int .i64 k ∧ a = .int .i64 (Pl.rotX k x y) ∧ b = .int .i64 (Pl.rotY k x y)) (fun _ _ i => (t - intOf i).toNat)
  case atStart => exact ⟨0, by omega, h0, rfl, by simp [Pl.rotX], by simp [Pl.rotY]⟩
  case round =>
    obtain ⟨k, hk0, hkt, rfl, rfl, rfl⟩ := hrel
    have hb := rot_bound (k := k) hx hy
    by_cases hlt : k < t
    · have hs := rot_step (x := x) (y := y) hk0 (show k < 3 by omega)
      have HS := Lib.hid hs
      clear hs
      generalize hX : Pl.rotX k x y = X at *
      generalize hY : Pl.rotY k x y = Y at *
      clear hX hY
      go_wp2
      go_round
      case rel => exact ⟨k + 1, by omega, by omega, by go_num, by rw [HS.out.1], by rw [HS.out.2]⟩
      case measure => simp [intOf]; omega
    · have hkt' : k = t := by omega
      have HK := Lib.hid hkt'
      clear hkt'
      generalize hX : Pl.rotX k x y = X at *
      generalize hY : Pl.rotY k x y = Y at *
      have HX := Lib.hid hX
      have HY := Lib.hid hY
      clear hX hY
      go_wp2
      go_ret2
      exact ⟨by rw [← HX.out, ← HY.out, HK.out]; rfl, rfl⟩

set_option maxHeartbeats 800000 in
theorem Turned_flip (t x y : Int) (w : World) (h0 : 0 ≤ t) (h3 : t ≤ 3) (hx : -1099511627776 ≤ x ∧ x ≤ 1099511627776) (hy : -1099511627776 ≤ y ∧ y ≤ 1099511627776) :
    Calls Try.prog 25 #[.int .i64 t, .bool true, .int .i64 x, .int .i64 y] w fun e w' => e = .returned (.tuple #[.int .i64 (Pl.rotX t x (-y)), .int .i64 (Pl.rotY t x (-y))]) ∧ w = w' := by
  go_enter Try.func25, Try.ntmps25
  go_wp2
  go_loop [2, 3, 10] (fun a b i => ∃ k : Int, 0 ≤ k ∧ k ≤ t ∧ i = .int .i64 k ∧ a = .int .i64 (Pl.rotX k x (-y)) ∧ b = .int .i64 (Pl.rotY k x (-y))) (fun _ _ i => (t - intOf i).toNat)
  case atStart => exact ⟨0, by omega, h0, rfl, by simp [Pl.rotX], by simp [Pl.rotY]⟩
  case round =>
    obtain ⟨k, hk0, hkt, rfl, rfl, rfl⟩ := hrel
    have hb := rot_bound (k := k) (y := -y) hx (by omega)
    by_cases hlt : k < t
    · have hs := rot_step (x := x) (y := -y) hk0 (show k < 3 by omega)
      have HS := Lib.hid hs
      clear hs
      generalize hX : Pl.rotX k x (-y) = X at *
      generalize hY : Pl.rotY k x (-y) = Y at *
      clear hX hY
      go_wp2
      go_round
      case rel => exact ⟨k + 1, by omega, by omega, by go_num, by rw [HS.out.1], by rw [HS.out.2]⟩
      case measure => simp [intOf]; omega
    · have hkt' : k = t := by omega
      have HK := Lib.hid hkt'
      clear hkt'
      generalize hX : Pl.rotX k x (-y) = X at *
      generalize hY : Pl.rotY k x (-y) = Y at *
      have HX := Lib.hid hX
      have HY := Lib.hid hY
      clear hX hY
      go_wp2
      go_ret2
      exact ⟨by rw [← HX.out, ← HY.out, HK.out]; rfl, rfl⟩

theorem Turned_any (t : Int) (f : Bool) (x y : Int) (w : World) (h0 : 0 ≤ t) (h3 : t ≤ 3) (hx : -1099511627776 ≤ x ∧ x ≤ 1099511627776) (hy : -1099511627776 ≤ y ∧ y ≤ 1099511627776) :
    Calls Try.prog 25 #[.int .i64 t, .bool f, .int .i64 x, .int .i64 y] w fun e w' => e = .returned (.tuple #[.int .i64 (Pl.turnX t f x y), .int .i64 (Pl.turnY t f x y)]) ∧ w = w' := by
  cases f
  · exact Turned_plain t x y w h0 h3 hx hy
  · exact Turned_flip t x y w h0 h3 hx hy

/-- what the reference's Move tells -/
def RetPtB (w : World) (l : List Int) (b : Bool) (e : Ending) (w' : World) : Prop :=
  ∃ v', e = .returned (.tuple #[v', .bool b]) ∧ RdU w' v' l ∧ Below w.heap.size w w'

set_option maxHeartbeats 800000 in
theorem RefMove_any (t : Int) (f : Bool) (dx dy a b : Int) (v : Value) (w : World) (hr : Pl.rightB t dx dy = true) (hv : RdU w v [a, b]) (ha : 0 ≤ a ∧ a < 1048576) (hb : 0 ≤ b ∧ b < 1048576) :
    Calls Try.prog 26 #[.int .i64 t, .bool f, .int .i64 dx, .int .i64 dy, v] w
      (if (Pl.coordB (Pl.turnX t f a b + dx) && Pl.coordB (Pl.turnY t f a b + dy)) = true then RetPtB w [Pl.turnX t f a b + dx, Pl.turnY t f a b + dy] true else RetPtB w [] false) := by
  obtain ⟨B, o, c, rfl, c0, c1⟩ := hv.of_two
  clear hv
  have hR := Pl.rightB_iff.1 hr
  have hbd := Pl.turn_bound (f := f) hR.1 hR.2.1 (x := a) (y := b) (B := 1048576) (by omega) (by omega)
  have HT := Lib.hid (fun (w : World) => Turned_any t f a b w hR.1 hR.2.1 (by omega) (by omega))
  have k1 : IntKind.i64.wrap a = a := IntWalk.i64_in _ (by omega)
  have k2 : IntKind.i64.wrap b = b := IntWalk.i64_in _ (by omega)
  generalize hX : Pl.turnX t f a b = X at *
  generalize hY : Pl.turnY t f a b = Y at *
  have e1 : Pl.coordB (X + dx) = decide (0 ≤ X + dx ∧ X + dx < 1048576) := rfl
  have e2 : Pl.coordB (Y + dy) = decide (0 ≤ Y + dy ∧ Y + dy < 1048576) := rfl
  rw [e1, e2, ← Bool.decide_and]
  clear e1 e2 hX hY hr
  by_cases hc : (0 ≤ X + dx ∧ X + dx < 1048576) ∧ (0 ≤ Y + dy ∧ Y + dy < 1048576)
  · rw [if_pos (by simpa using hc)]
    obtain ⟨⟨q1, q2⟩, q3, q4⟩ := hc
    go_enter Try.func26, Try.ntmps26
    go_wp2_with fail
    go_quiet ((go_at_call 25; exact Calls.quiet_of_same ((HT.out _).mono fun e w' ⟨h1, h2⟩ => ⟨h1, h2.symm⟩)))
    go_wp2
    go_ret2
    exact ⟨_, rfl, RdU.two (World.cell?_alloc_new _ _ _ _) (World.cell?_alloc_new _ _ _ _), (by repeat (first | exact Below.refl _ _ | assumption | (refine Below.drew ?_) | (refine below_drewN' ?_ _) | (refine Below.alloc ?_ (by first | exact Nat.le_refl _ | (simp; done) | (simp; omega)) _)))⟩
  · rw [if_neg (by simpa using hc)]
    go_enter Try.func26, Try.ntmps26
    go_wp2_with fail
    go_quiet ((go_at_call 25; exact Calls.quiet_of_same ((HT.out _).mono fun e w' ⟨h1, h2⟩ => ⟨h1, h2.symm⟩)))
    by_cases q1 : X + dx < 0
    · go_wp2
      go_ret2
      exact ⟨_, rfl, RdU.nil _ _ _, (by repeat (first | exact Below.refl _ _ | assumption | (refine Below.drew ?_) | (refine below_drewN' ?_ _) | (refine Below.alloc ?_ (by first | exact Nat.le_refl _ | (simp; done) | (simp; omega)) _)))⟩
    · by_cases q2 : 1048576 ≤ X + dx
      · go_wp2
        go_ret2
        exact ⟨_, rfl, RdU.nil _ _ _, (by repeat (first | exact Below.refl _ _ | assumption | (refine Below.drew ?_) | (refine below_drewN' ?_ _) | (refine Below.alloc ?_ (by first | exact Nat.le_refl _ | (simp; done) | (simp; omega)) _)))⟩
      · by_cases q3 : Y + dy < 0
        · go_wp2
          go_ret2
          exact ⟨_, rfl, RdU.nil _ _ _, (by repeat (first | exact Below.refl _ _ | assumption | (refine Below.drew ?_) | (refine below_drewN' ?_ _) | (refine Below.alloc ?_ (by first | exact Nat.le_refl _ | (simp; done) | (simp; omega)) _)))⟩
        · have q4 : 1048576 ≤ Y + dy := by omega
          clear hc
          go_wp2
          go_ret2
          exact ⟨_, rfl, RdU.nil _ _ _, (by repeat (first | exact Below.refl _ _ | assumption | (refine Below.drew ?_) | (refine below_drewN' ?_ _) | (refine Below.alloc ?_ (by first | exact Nat.le_refl _ | (simp; done) | (simp; omega)) _)))⟩

theorem sq_bound (a b : Int) (ha : -1048576 ≤ a ∧ a ≤ 1048576) (hb : -1048576 ≤ b ∧ b ≤ 1048576) : (0 ≤ a * a ∧ a * a ≤ 1099511627776) ∧ (0 ≤ b * b ∧ b * b ≤ 1099511627776) := by
  have key : ∀ c : Int, -1048576 ≤ c ∧ c ≤ 1048576 → 0 ≤ c * c ∧ c * c ≤ 1099511627776 := by
    intro c hc
    have h1 : c.natAbs ≤ 1048576 := by omega
    have h2 : c.natAbs * c.natAbs ≤ 1048576 * 1048576 := Nat.mul_le_mul h1 h1
    have h3 : c * c = ((c.natAbs * c.natAbs : Nat) : Int) := by rw [Int.natCast_mul]; exact (Int.natAbs_mul_self' c).symm
    generalize c * c = C at *
    generalize c.natAbs * c.natAbs = D at *
    omega
  exact ⟨key a ha, key b hb⟩

def farI (a b c d : Int) : Int := (a - c) * (a - c) + (b - d) * (b - d)
set_option maxHeartbeats 800000 in
theorem Far_any (a b c d : Int) (v u : Value) (w : World) (hv : RdU w v [a, b]) (hu : RdU w u [c, d]) (ha : 0 ≤ a ∧ a < 1048576) (hb : 0 ≤ b ∧ b < 1048576) (hc : 0 ≤ c ∧ c < 1048576) (hd : 0 ≤ d ∧ d < 1048576) :
    Calls Try.prog 27 #[v, u] w fun e w' => e = .returned (.int .i64 (farI a b c d)) ∧ ∃ n, w' = w.drewN n := by
  obtain ⟨B, o, c1, rfl, c00, c01⟩ := hv.of_two
  obtain ⟨B2, o2, c2, rfl, c10, c11⟩ := hu.of_two
  clear hv hu
  have k1 : IntKind.i64.wrap a = a := IntWalk.i64_in _ (by omega)
  have k2 : IntKind.i64.wrap b = b := IntWalk.i64_in _ (by omega)
  have k3 : IntKind.i64.wrap c = c := IntWalk.i64_in _ (by omega)
  have k4 : IntKind.i64.wrap d = d := IntWalk.i64_in _ (by omega)
  have k5 : IntKind.i64.wrap (a - c) = a - c := IntWalk.i64_in _ (by omega)
  have k6 : IntKind.i64.wrap (b - d) = b - d := IntWalk.i64_in _ (by omega)
  have hsq := sq_bound (a - c) (b - d) (by omega) (by omega)
  have HE := Lib.hid (show farI a b c d = (a - c) * (a - c) + (b - d) * (b - d) from rfl)
  go_enter Try.func27, Try.ntmps27
  go_wp2_with fail
  go_quiet (fail)
  clear k1 k2 k3 k4 k5 k6
  generalize a - c = X at *
  generalize b - d = Y at *
  generalize hXX : X * X = XX at *
  generalize hYY : Y * Y = YY at *
  go_wp2
  go_ret
  exact ⟨ret_int HE.out.symm, _, rfl⟩

-- the chapter's example
set_option maxHeartbeats 800000 in
theorem awake27 (w : World) : Calls Try.prog 15 #[] w fun e w' => e = .returned (.bool true) ∧ Below w.heap.size w w' := by
  go_enter Try.func15, Try.ntmps15
  go_wp2_with fail
  refine (Move_any 1 false 9 0 _ [2, 3] _ (RdU.two (by go_simp) (by go_simp)) (by simp)).mono ?_
  rintro e w1 ⟨v', rfl, hv, hb⟩
  have em : Pl.moveR 1 false 9 0 [2, 3] = ([6, 2], 0) := by decide
  rw [em] at hv
  rw [em]
  have hb1 : Below w.heap.size w w1 := below_trans (by repeat (first | exact Below.refl _ _ | assumption | (refine Below.drew ?_) | (refine below_drewN' ?_ _) | (refine Below.alloc ?_ (by first | exact Nat.le_refl _ | (simp; done) | (simp; omega)) _))) hb
  clear em hb
  go_wp2_with fail
  refine (Same_any _ _ [6, 2] [6, 2] _ (RdU.below hv (by repeat (first | exact Below.refl _ _ | assumption | (refine Below.drew ?_) | (refine below_drewN' ?_ _) | (refine Below.alloc ?_ (by first | exact Nat.le_refl _ | (simp; done) | (simp; omega)) _)))) (RdU.two (by go_simp) (by go_simp)) (by simp)).mono ?_
  rintro e w2 ⟨rfl, n, rfl⟩
  go_wp2_with fail
  go_ret
  exact ⟨rfl, below_drewN' (below_trans hb1 (by repeat (first | exact Below.refl _ _ | assumption | (refine Below.drew ?_) | (refine below_drewN' ?_ _) | (refine Below.alloc ?_ (by first | exact Nat.le_refl _ | (simp; done) | (simp; omega)) _)))) _⟩

end Go.Proofs.Ytlmgabhdeeehmaa
