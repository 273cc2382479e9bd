/-
  The walks of package plane: Move, Back, Then.
-/
import Derived.Test.YtlmgabhdeeehmaaPlane
namespace Go.Proofs.Ytlmgabhdeeehmaa
open Go.RowKit
set_option linter.unusedVariables false

/-- a point and a code are handed back -/
def RetPt (w : World) (r : List Int × Int) (e : Ending) (w' : World) : Prop :=
  ∃ v', e = .returned (.tuple #[v', .int .i64 r.2]) ∧ RdU w' v' r.1 ∧ Below w.heap.size w w'

set_option maxHeartbeats 400000 in
theorem Move_right (t : Int) (f : Bool) (x y : Int) (v : Value) (p : List Int) (w : World) (hr : Pl.rightB t x y = false) :
    Calls Try.prog 20 #[Mo t f x y, v] w (RetPt w ([], 3)) := by
  go_enter Try.func20, Try.ntmps20
  go_wp2_with (go_at_call 24; refine (Right_any t f x y _).mono ?_; rintro e w' ⟨rfl, rfl⟩)
  go_ret2
  exact ⟨_, rfl, RdU.nil _ _ _, (by repeat (first | exact Below.refl _ _ | assumption | (refine Below.drew ?_) | (refine below_drewN' ?_ _) | (refine Below.alloc ?_ (by first | exact Nat.le_refl _ | (simp; done) | (simp; omega)) _)))⟩

set_option maxHeartbeats 400000 in
theorem Move_dim (t : Int) (f : Bool) (x y : Int) (A : Option Addr) (n c : Nat) (w : World) (hr : Pl.rightB t x y = true) (hn : n ≠ 2) :
    Calls Try.prog 20 #[Mo t f x y, .slice A n c] w (RetPt w ([], 2)) := by
  go_enter Try.func20, Try.ntmps20
  go_wp2_with (first | (go_at_call 24; refine (Right_any t f x y _).mono ?_; rintro e w' ⟨rfl, rfl⟩) | (go_at_call 16; refine (Number_dim A n c _ hn).mono ?_; rintro e w' ⟨rfl, rfl⟩))
  go_ret2
  exact ⟨_, rfl, RdU.nil _ _ _, (by repeat (first | exact Below.refl _ _ | assumption | (refine Below.drew ?_) | (refine below_drewN' ?_ _) | (refine Below.alloc ?_ (by first | exact Nat.le_refl _ | (simp; done) | (simp; omega)) _)))⟩

set_option maxHeartbeats 400000 in
theorem Move_small (t : Int) (f : Bool) (x y a b : Int) (B o c : Nat) (w : World) (hr : Pl.rightB t x y = true)
    (h0 : w.cell? ⟨B, o, none⟩ = some (.int .u64 a)) (h1 : w.cell? ⟨B, o+1, none⟩ = some (.int .u64 b)) (hs : decide (max a b < 1048576) = false) :
    Calls Try.prog 20 #[Mo t f x y, .slice (some ⟨B, o, none⟩) 2 c] w (RetPt w ([], 3)) := by
  go_enter Try.func20, Try.ntmps20
  go_wp2_with fail
  refine (Right_any t f x y _).mono ?_
  rintro e w' ⟨rfl, rfl⟩
  go_wp2_with fail
  refine (Number_arg B o c a b _ (Below.keeps (by repeat (first | exact Below.refl _ _ | assumption | (refine Below.drew ?_) | (refine below_drewN' ?_ _) | (refine Below.alloc ?_ (by first | exact Nat.le_refl _ | (simp; done) | (simp; omega)) _))) _ _ h0) (Below.keeps (by repeat (first | exact Below.refl _ _ | assumption | (refine Below.drew ?_) | (refine below_drewN' ?_ _) | (refine Below.alloc ?_ (by first | exact Nat.le_refl _ | (simp; done) | (simp; omega)) _))) _ _ h1) hs).mono ?_
  rintro e w' ⟨rfl, n, rfl⟩
  go_wp2_with fail
  go_ret2
  exact ⟨_, rfl, RdU.nil _ _ _, (by repeat (first | exact Below.refl _ _ | assumption | (refine Below.drew ?_) | (refine below_drewN' ?_ _) | (refine Below.alloc ?_ (by first | exact Nat.le_refl _ | (simp; done) | (simp; omega)) _)))⟩

theorem coordB_abs {t u v x y : Int} {f : Bool} (hr : Pl.rightB t x y = true) (hu : 0 ≤ u ∧ u < 1048576) (hv : 0 ≤ v ∧ v < 1048576) :
    (Pl.turnX t f u v + x).natAbs < 2 ^ 53 ∧ (Pl.turnY t f u v + y).natAbs < 2 ^ 53 := by
  have h := Pl.rightB_iff.1 hr
  have hb := Pl.turn_bound (f := f) h.1 h.2.1 (x := u) (y := v) (B := 1048576) (by omega) (by omega)
  exact ⟨abs_lt _ (by omega), abs_lt _ (by omega)⟩

set_option maxHeartbeats 400000 in
theorem Move_on (t : Int) (f : Bool) (x y a b : Int) (B o c : Nat) (w : World) (hr : Pl.rightB t x y = true) (ha : 0 ≤ a) (hb : 0 ≤ b)
    (h0 : w.cell? ⟨B, o, none⟩ = some (.int .u64 a)) (h1 : w.cell? ⟨B, o+1, none⟩ = some (.int .u64 b)) (hs : decide (max a b < 1048576) = true) :
    Calls Try.prog 20 #[Mo t f x y, .slice (some ⟨B, o, none⟩) 2 c] w (RetPt w (Pl.moveR t f x y [a, b])) := by
  have hab : a < 1048576 ∧ b < 1048576 := by simp only [decide_eq_true_iff] at hs; omega
  have hsm : Pl.smallB [a, b] = true := by simp [Pl.smallB, hab]
  have hR := Pl.rightB_iff.1 hr
  have HA := Lib.hid (coordB_abs (f := f) hr (u := a) (v := b) ⟨ha, hab.1⟩ ⟨hb, hab.2⟩)
  have HP := fun (w : World) => at_val t f x y (floatOfInt .f64 a) (floatOfInt .f64 b) a b w hR.1 hR.2.1 (Val.ofInt (abs_lt _ (by omega))) (Val.ofInt (abs_lt _ (by omega))) (by omega) (by omega) (by omega) (by omega)
  have HP := Lib.hid HP
  by_cases hc : (Pl.coordB (Pl.turnX t f a b + x) && Pl.coordB (Pl.turnY t f a b + y)) = true
  · rw [Pl.moveR_fine hr hsm hc]
    have hcc : Pl.coordB (Pl.turnX t f a b + x) = true ∧ Pl.coordB (Pl.turnY t f a b + y) = true := by simpa using hc
    have HC := Lib.hid hcc
    clear hc hcc hsm hR hab ha hb
    generalize Pl.turnX t f a b + x = p at *
    generalize Pl.turnY t f a b + y = q at *
    go_enter Try.func20, Try.ntmps20
    go_wp2_with fail
    refine (Right_any t f x y _).mono ?_
    rintro e w' ⟨rfl, rfl⟩
    go_wp2_with fail
    refine (Number_fine B o c a b _ (Below.keeps (by repeat (first | exact Below.refl _ _ | assumption | (refine Below.drew ?_) | (refine below_drewN' ?_ _) | (refine Below.alloc ?_ (by first | exact Nat.le_refl _ | (simp; done) | (simp; omega)) _))) _ _ h0) (Below.keeps (by repeat (first | exact Below.refl _ _ | assumption | (refine Below.drew ?_) | (refine below_drewN' ?_ _) | (refine Below.alloc ?_ (by first | exact Nat.le_refl _ | (simp; done) | (simp; omega)) _))) _ _ h1) hs).mono ?_
    rintro e w' ⟨rfl, n, rfl⟩
    go_wp2_with fail
    refine (HP.out _).mono ?_
    rintro e w1 ⟨r, i, rfl, rfl, g1, g2⟩
    go_wp2_with fail
    refine (Point_yes r i _ _ _ g1 g2 HC.out.1 HC.out.2).mono ?_
    rintro e w2 ⟨rfl, rfl⟩
    go_wp2_with fail
    go_ret2
    exact ⟨_, rfl, RdU.two (by go_simp) (by go_simp), (by repeat (first | exact Below.refl _ _ | assumption | (refine Below.drew ?_) | (refine below_drewN' ?_ _) | (refine Below.alloc ?_ (by first | exact Nat.le_refl _ | (simp; done) | (simp; omega)) _)))⟩
  · have hc : (Pl.coordB (Pl.turnX t f a b + x) && Pl.coordB (Pl.turnY t f a b + y)) = false := by simpa using hc
    rw [Pl.moveR_long hr hsm hc]
    have HC := Lib.hid hc
    clear hc hsm hR hab ha hb
    generalize Pl.turnX t f a b + x = p at *
    generalize Pl.turnY t f a b + y = q at *
    go_enter Try.func20, Try.ntmps20
    go_wp2_with fail
    refine (Right_any t f x y _).mono ?_
    rintro e w' ⟨rfl, rfl⟩
    go_wp2_with fail
    refine (Number_fine B o c a b _ (Below.keeps (by repeat (first | exact Below.refl _ _ | assumption | (refine Below.drew ?_) | (refine below_drewN' ?_ _) | (refine Below.alloc ?_ (by first | exact Nat.le_refl _ | (simp; done) | (simp; omega)) _))) _ _ h0) (Below.keeps (by repeat (first | exact Below.refl _ _ | assumption | (refine Below.drew ?_) | (refine below_drewN' ?_ _) | (refine Below.alloc ?_ (by first | exact Nat.le_refl _ | (simp; done) | (simp; omega)) _))) _ _ h1) hs).mono ?_
    rintro e w' ⟨rfl, n, rfl⟩
    go_wp2_with fail
    refine (HP.out _).mono ?_
    rintro e w1 ⟨r, i, rfl, rfl, g1, g2⟩
    go_wp2_with fail
    refine (Point_no r i _ _ _ HC.out (fun w => coordinate_val r _ w g1 HA.out.1) (fun w => coordinate_val i _ w g2 HA.out.2)).mono ?_
    rintro e w2 ⟨rfl, rfl⟩
    go_wp2_with fail
    go_ret2
    exact ⟨_, rfl, RdU.nil _ _ _, (by repeat (first | exact Below.refl _ _ | assumption | (refine Below.drew ?_) | (refine below_drewN' ?_ _) | (refine Below.alloc ?_ (by first | exact Nat.le_refl _ | (simp; done) | (simp; omega)) _)))⟩

/-- 'Move', whatever comes in. -/
theorem Move_any (t : Int) (f : Bool) (x y : Int) (v : Value) (p : List Int) (w : World) (hv : RdU w v p) (hp : ∀ z ∈ p, 0 ≤ z) :
    Calls Try.prog 20 #[Mo t f x y, v] w (RetPt w (Pl.moveR t f x y p)) := by
  cases hr : Pl.rightB t x y with
  | false => rw [Pl.moveR_right f p hr]; exact Move_right t f x y v p w hr
  | true =>
    by_cases hl : p.length = 2
    · obtain ⟨a, b, rfl⟩ : ∃ a b, p = [a, b] := by
        match p, hl with
        | [a, b], _ => exact ⟨a, b, rfl⟩
      obtain ⟨B, o, c, rfl, h0, h1⟩ := hv.of_two
      cases hs : decide (max a b < 1048576) with
      | false =>
        have hsm : Pl.smallB [a, b] = false := by
          simp only [decide_eq_false_iff_not] at hs
          simp only [Pl.smallB, decide_eq_false_iff_not]; omega
        rw [Pl.moveR_small f hr hsm]; exact Move_small t f x y a b B o c w hr h0 h1 hs
      | true => exact Move_on t f x y a b B o c w hr (hp a (by simp)) (hp b (by simp)) h0 h1 hs
    · rw [Pl.moveR_dim f hr hl]
      obtain ⟨A, c, rfl, _⟩ := hv.slice
      exact Move_dim t f x y A _ c w hr hl


theorem and3 (t : Int) (h0 : -3 ≤ t) (h6 : t ≤ 6) : bits .and .i64 t 3 = t % 4 := by
  have h : t = -3 ∨ t = -2 ∨ t = -1 ∨ t = 0 ∨ t = 1 ∨ t = 2 ∨ t = 3 ∨ t = 4 ∨ t = 5 ∨ t = 6 := by omega
  rcases h with rfl | rfl | rfl | rfl | rfl | rfl | rfl | rfl | rfl | rfl <;> decide

set_option maxHeartbeats 400000 in
theorem of_any (t : Int) (f : Bool) (re im : Nat) (x y : Int) (w : World) (h0 : -3 ≤ t) (h6 : t ≤ 6) (hx : Fl.Val re x) (hy : Fl.Val im y) (bx : -1073741824 ≤ x ∧ x ≤ 1073741824) (bY : -1073741824 ≤ y ∧ y ≤ 1073741824) :
    Calls Try.prog 75 #[.int .i64 t, .bool f, .complex .f64 re im] w fun e w' => e = .returned (Mo (t % 4) f x y) ∧ w' = w.alloc (MoB (t % 4) f x y) := by
  have hx' := fun (w : World) => run_convert_float_int (P := Try.prog) w 31 3 _ _ _ _ (by kernel_rfl) (by kernel_rfl) (Val.toInt hx .i64 (by simp [IntKind.min, IntKind.signed, IntKind.bits]; omega) (by simp [IntKind.max, IntKind.signed, IntKind.bits]; omega))
  have hy' := fun (w : World) => run_convert_float_int (P := Try.prog) w 31 3 _ _ _ _ (by kernel_rfl) (by kernel_rfl) (Val.toInt hy .i64 (by simp [IntKind.min, IntKind.signed, IntKind.bits]; omega) (by simp [IntKind.max, IntKind.signed, IntKind.bits]; omega))
  have ha := and3 t h0 h6
  clear hx hy bx bY
  generalize t % 4 = u at *
  go_enter Try.func75, Try.ntmps75
  go_wp2
  exact bodyPost_ret (v := Mo u f x y) (by simp [results, Try.results75, go_sem]) rfl ⟨rfl, rfl⟩

abbrev Mz : Value := .agg #[.int .i64 0, .bool false, .int .i64 0, .int .i64 0]
set_option maxHeartbeats 400000 in
theorem Back_no (t : Int) (f : Bool) (x y : Int) (w : World) (hr : Pl.rightB t x y = false) :
    Calls Try.prog 21 #[Mo t f x y] w fun e w' => e = .returned (.tuple #[Mz, .int .i64 3]) ∧ Below w.heap.size w w' := by
  go_enter Try.func21, Try.ntmps21
  go_wp2_with fail
  refine (Right_any t f x y _).mono ?_
  rintro e w' ⟨rfl, rfl⟩
  go_wp2_with fail
  exact bodyPost_ret (v := .tuple #[Mz, .int .i64 3]) (by simp [results, Try.results21, go_sem]) rfl ⟨rfl, (by repeat (first | exact Below.refl _ _ | assumption | (refine Below.drew ?_) | (refine below_drewN' ?_ _) | (refine Below.alloc ?_ (by first | exact Nat.le_refl _ | (simp; done) | (simp; omega)) _)))⟩

set_option maxHeartbeats 1000000 in
theorem Back_flip (t : Int) (x y : Int) (w : World) (hr : Pl.rightB t x y = true) :
    Calls Try.prog 21 #[Mo t true x y] w fun e w' => e = .returned (.tuple #[Mo (t % 4) true (-(Pl.turnX (t % 4) true x y)) (-(Pl.turnY (t % 4) true x y)), .int .i64 0]) ∧ Below w.heap.size w w' := by
  have hR := Pl.rightB_iff.1 hr
  go_enter Try.func21, Try.ntmps21
  go_wp2_with fail
  refine (Right_any t true x y _).mono ?_
  rintro e w' ⟨rfl, rfl⟩
  go_wp2_with fail
  refine (of_any _ true 0 0 0 0 _ (by omega) (by omega) Val.zero Val.zero (by omega) (by omega)).mono ?_
  rintro e w' ⟨rfl, rfl⟩
  go_wp2_with fail
  have hbd := Pl.turn_bound (f := true) (t := t % 4) (by omega) (by omega) (x := x) (y := y) (B := 2097152) (by omega) (by omega)
  have H2 := Lib.hid (fun (w : World) (r i : Nat) (g1 : Fl.Val r (Pl.turnX (t % 4) true x y + 0)) (g2 : Fl.Val i (Pl.turnY (t % 4) true x y + 0)) => of_any (t) true (Op.negFloat .f64 r) (Op.negFloat .f64 i) _ _ w (by omega) (by omega) (Val.neg g1) (Val.neg g2) (by omega) (by omega))
  have H1 := Lib.hid (fun (w : World) => at_val (t % 4) true 0 0 (floatOfInt .f64 x) (floatOfInt .f64 y) x y w (by omega) (by omega) (Val.ofInt (abs_lt _ (by omega))) (Val.ofInt (abs_lt _ (by omega))) (by omega) (by omega) (by omega) (by omega))
  clear hR hbd hr
  go_region_held3 (fun w' => w'.cell? ⟨w.heap.size, 0, none⟩ = some (.int .i64 t) ∧ w'.cell? ⟨w.heap.size, 1, none⟩ = some (.bool true) ∧ w'.cell? ⟨w.heap.size, 2, none⟩ = some (.int .i64 x) ∧ w'.cell? ⟨w.heap.size, 3, none⟩ = some (.int .i64 y) ∧ w'.cell? ⟨w.heap.size + 1 + 1 + 1 + 1, 0, none⟩ = some (.int .i64 (t % 4)) ∧ w'.cell? ⟨w.heap.size + 1 + 1 + 1 + 1, 1, none⟩ = some (.bool true) ∧ w'.cell? ⟨w.heap.size + 1 + 1 + 1 + 1, 2, none⟩ = some (.int .i64 0) ∧ w'.cell? ⟨w.heap.size + 1 + 1 + 1 + 1, 3, none⟩ = some (.int .i64 0))
    (simp [go_sem])
    (first
      | (go_at_call 76; refine (shift_any t true x y _).mono ?_; rintro e w' ⟨rfl, rfl⟩)
      | (go_at_call 74; refine (H1.out _).mono ?_; rintro e w' ⟨r, i, rfl, rfl, g1, g2⟩)
      | (go_at_call 75; refine (H2.out _ r i g1 g2).mono ?_; rintro e w' ⟨rfl, rfl⟩))
  go_wp2_with fail
  exact bodyPost_ret (v := .tuple #[Mo (t % 4) true (-(Pl.turnX (t % 4) true x y)) (-(Pl.turnY (t % 4) true x y)), .int .i64 0]) (by simp [results, Try.results21, go_sem]) rfl ⟨rfl, (by repeat (first | exact Below.refl _ _ | assumption | (refine Below.drew ?_) | (refine below_drewN' ?_ _) | (refine Below.alloc ?_ (by first | exact Nat.le_refl _ | (simp; done) | (simp; omega)) _)))⟩

set_option maxHeartbeats 1000000 in
theorem Back_plain (t : Int) (x y : Int) (w : World) (hr : Pl.rightB t x y = true) :
    Calls Try.prog 21 #[Mo t false x y] w fun e w' => e = .returned (.tuple #[Mo ((-t) % 4) false (-(Pl.turnX ((-t) % 4) false x y)) (-(Pl.turnY ((-t) % 4) false x y)), .int .i64 0]) ∧ Below w.heap.size w w' := by
  have hR := Pl.rightB_iff.1 hr
  go_enter Try.func21, Try.ntmps21
  go_wp2_with fail
  refine (Right_any t false x y _).mono ?_
  rintro e w' ⟨rfl, rfl⟩
  go_wp2_with fail
  refine (of_any _ false 0 0 0 0 _ (by omega) (by omega) Val.zero Val.zero (by omega) (by omega)).mono ?_
  rintro e w' ⟨rfl, rfl⟩
  go_wp2_with fail
  have hbd := Pl.turn_bound (f := false) (t := (-t) % 4) (by omega) (by omega) (x := x) (y := y) (B := 2097152) (by omega) (by omega)
  have H2 := Lib.hid (fun (w : World) (r i : Nat) (g1 : Fl.Val r (Pl.turnX ((-t) % 4) false x y + 0)) (g2 : Fl.Val i (Pl.turnY ((-t) % 4) false x y + 0)) => of_any ((-t)) false (Op.negFloat .f64 r) (Op.negFloat .f64 i) _ _ w (by omega) (by omega) (Val.neg g1) (Val.neg g2) (by omega) (by omega))
  have H1 := Lib.hid (fun (w : World) => at_val ((-t) % 4) false 0 0 (floatOfInt .f64 x) (floatOfInt .f64 y) x y w (by omega) (by omega) (Val.ofInt (abs_lt _ (by omega))) (Val.ofInt (abs_lt _ (by omega))) (by omega) (by omega) (by omega) (by omega))
  clear hR hbd hr
  go_region_held3 (fun w' => w'.cell? ⟨w.heap.size, 0, none⟩ = some (.int .i64 t) ∧ w'.cell? ⟨w.heap.size, 1, none⟩ = some (.bool false) ∧ w'.cell? ⟨w.heap.size, 2, none⟩ = some (.int .i64 x) ∧ w'.cell? ⟨w.heap.size, 3, none⟩ = some (.int .i64 y) ∧ w'.cell? ⟨w.heap.size + 1 + 1 + 1 + 1, 0, none⟩ = some (.int .i64 ((-t) % 4)) ∧ w'.cell? ⟨w.heap.size + 1 + 1 + 1 + 1, 1, none⟩ = some (.bool false) ∧ w'.cell? ⟨w.heap.size + 1 + 1 + 1 + 1, 2, none⟩ = some (.int .i64 0) ∧ w'.cell? ⟨w.heap.size + 1 + 1 + 1 + 1, 3, none⟩ = some (.int .i64 0))
    (simp [go_sem])
    (first
      | (go_at_call 76; refine (shift_any t false x y _).mono ?_; rintro e w' ⟨rfl, rfl⟩)
      | (go_at_call 74; refine (H1.out _).mono ?_; rintro e w' ⟨r, i, rfl, rfl, g1, g2⟩)
      | (go_at_call 75; refine (H2.out _ r i g1 g2).mono ?_; rintro e w' ⟨rfl, rfl⟩))
  go_wp2_with fail
  exact bodyPost_ret (v := .tuple #[Mo ((-t) % 4) false (-(Pl.turnX ((-t) % 4) false x y)) (-(Pl.turnY ((-t) % 4) false x y)), .int .i64 0]) (by simp [results, Try.results21, go_sem]) rfl ⟨rfl, (by repeat (first | exact Below.refl _ _ | assumption | (refine Below.drew ?_) | (refine below_drewN' ?_ _) | (refine Below.alloc ?_ (by first | exact Nat.le_refl _ | (simp; done) | (simp; omega)) _)))⟩


theorem Back_any (t : Int) (f : Bool) (x y : Int) (w : World) (hr : Pl.rightB t x y = true) :
    Calls Try.prog 21 #[Mo t f x y] w fun e w' => e = .returned (.tuple #[Mo (Pl.backT t f) f (Pl.backX t f x y) (Pl.backY t f x y), .int .i64 0]) ∧ Below w.heap.size w w' := by
  have hR := Pl.rightB_iff.1 hr
  cases f with
  | true =>
    have e : t % 4 = t := by omega
    have h := Back_flip t x y w hr
    rw [e] at h; exact h
  | false => exact Back_plain t x y w hr

end Go.Proofs.Ytlmgabhdeeehmaa
