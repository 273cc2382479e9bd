/-
  PlaneNumbers: any point is the complex number that the chapter says, or there is its error; any halves are a point, or none.
-/
import Derived.Test.YtlmgabhdeeehmaaRef27
namespace Go.Proofs.Ytlmgabhdeeehmaa
open Go.RowKit
set_option linter.unusedVariables false
set_option linter.unusedSimpArgs false

/-- halves: what 'coordinate' says -/
def halfB (x : Int) : Bool := decide (0 ≤ x ∧ x % 2 = 0 ∧ x / 2 < 1048576)

theorem half_coord {r : Nat} {x : Int} (h : Fl.PVal 1 r x) (hx : x.natAbs < 2 ^ 53) (w : World) :
    Calls Try.prog 73 #[.float .f64 r] w fun e w' => e = .returned (.bool (halfB x)) ∧ w = w' := by
  by_cases ho : x % 2 = 0
  · obtain ⟨m, rfl⟩ : ∃ m, x = 2 * m := ⟨x / 2, by omega⟩
    have h2 := Fl.even_half h
    refine Calls.mono (coordinate_val r m w h2 (by omega)) ?_
    rintro e w' ⟨rfl, hw⟩
    refine ⟨ret_bool (bool_ext ?_), hw⟩
    unfold Pl.coordB halfB
    simp only [decide_eq_true_iff]
    omega
  · obtain ⟨z, hz, hne⟩ := Fl.odd_trunc h hx ho
    refine Calls.mono (coordinate_any r w (Fl.not_nan h) _ _ _ rfl rfl rfl) ?_
    rintro e w' ⟨rfl, hw⟩
    refine ⟨ret_bool ?_, hw⟩
    have h3 : c3 r = false := by
      unfold c3 truncB
      have : ¬ FloatKind.f64.format.order r (FloatKind.f64.encode ((FloatKind.f64.decode r).integral .zero)) = some .eq := hne
      simpa using this
    rw [h3, Bool.and_false]
    unfold halfB
    symm
    simp only [decide_eq_false_iff_not]
    omega

/-- what the halves come to -/
structure Halves (x : Int) (r : Nat) : Prop where
  bits : floatBits .quo .f64 (floatOfInt .f64 x) 4611686018427387904 = some r
  coord : ∀ w, Calls Try.prog 73 #[.float .f64 r] w fun e w' => e = .returned (.bool (halfB x)) ∧ w = w'
  val : 0 ≤ x → x % 2 = 0 → Fl.Val r (x / 2)
theorem halves_of (x : Int) (hx : -2147483648 ≤ x ∧ x ≤ 2147483647) : ∃ r, Halves x r := by
  have ha : x.natAbs < 2 ^ 53 := abs_lt2 x (by omega)
  obtain ⟨r, h1, h2⟩ := Fl.half_val (Val.ofInt ha) ha
  refine ⟨r, h1, half_coord h2 ha, fun h0 he => ?_⟩
  have : x = 2 * (x / 2) := by omega
  rw [this] at h2
  exact Fl.even_half h2

theorem Point_half_no {x y : Int} {r i : Nat} (h1 : Halves x r) (h2 : Halves y i) (hb : (halfB x && halfB y) = false) (w : World) :
    Calls Try.prog 18 #[.complex .f64 r i] w fun e w' => e = .returned (.tuple #[.slice none 0 0, .int .i64 3]) ∧ w = w' :=
  Point_no r i w _ _ hb h1.coord h2.coord
theorem Point_half_yes {x y : Int} {r i : Nat} (h1 : Halves x r) (h2 : Halves y i) (hx : halfB x = true) (hy : halfB y = true) (w : World) :
    Calls Try.prog 18 #[.complex .f64 r i] w fun e w' => e = .returned (.tuple #[.slice (some ⟨w.heap.size, 0, none⟩) 2 2, .int .i64 0]) ∧ w' = w.alloc (.cells #[.int .u64 (x / 2), .int .u64 (y / 2)] 32) := by
  unfold halfB at hx hy
  simp only [decide_eq_true_iff] at hx hy
  exact Point_yes r i _ _ w (h1.val hx.1 hx.2.1) (h2.val hy.1 hy.2.1) (by simp [Pl.coordB]; omega) (by simp [Pl.coordB]; omega)

theorem Point_yes_r (re im : Nat) (x y : Int) (w : World) (h1 : Fl.Val re x) (h2 : Fl.Val im y) (k1 : Pl.coordB x = true) (k2 : Pl.coordB y = true) :
    Calls Try.prog 18 #[.complex .f64 re im] w fun e w' => ∃ v', e = .returned (.tuple #[v', .int .i64 0]) ∧ RdU w' v' [x, y] ∧ Below w.heap.size w w' :=
  (Point_yes re im x y w h1 h2 k1 k2).mono fun e w' ⟨he, hw⟩ => ⟨_, he, by subst hw; exact RdU.new2 rfl, by subst hw; exact (by repeat (first | exact Below.refl _ _ | assumption | (refine Below.drew ?_) | (refine below_drewN' ?_ _) | (refine below_alloc' ?_ _)))⟩
theorem Point_half_yes_r {x y : Int} {r i : Nat} (h1 : Halves x r) (h2 : Halves y i) (hx : halfB x = true) (hy : halfB y = true) (w : World) :
    Calls Try.prog 18 #[.complex .f64 r i] w fun e w' => ∃ v', e = .returned (.tuple #[v', .int .i64 0]) ∧ RdU w' v' [x / 2, y / 2] ∧ Below w.heap.size w w' :=
  (Point_half_yes h1 h2 hx hy w).mono fun e w' ⟨he, hw⟩ => ⟨_, he, by subst hw; exact RdU.new2 rfl, by subst hw; exact (by repeat (first | exact Below.refl _ _ | assumption | (refine Below.drew ?_) | (refine below_drewN' ?_ _) | (refine below_alloc' ?_ _)))⟩
theorem order_zero : FloatKind.f64.format.order 0 0 = some .eq := by decide
theorem order_self (a : Int) (h : -1073741824 ≤ a ∧ a ≤ 1073741824) : FloatKind.f64.format.order (floatOfInt .f64 a) (floatOfInt .f64 a) = some .eq := by
  rw [Val.order (Val.ofInt (abs_lt a h)) (Val.ofInt (abs_lt a h)), Int.compare_eq_eq.2 rfl]

set_option maxHeartbeats 2000000 in
theorem law_dim_b0 (x y : Int) (w : World) (hx : -2147483648 ≤ x ∧ x ≤ 2147483647) (hy : -2147483648 ≤ y ∧ y ≤ 2147483647) (A : Option Addr) (n c : Nat) (hn : n ≠ 2) (h40 : n ≤ 40) (k0 : x < 0) :
    Calls Try.prog 3 #[.slice A n c, .int .i32 x, .int .i32 y] w fun e w' => e = .returned (.bool true) ∧ Below w.heap.size w w' := by
  have hz := order_zero
  have hn2 : ((n : Int) != 2) = true := by simp; omega
  obtain ⟨rx, hrx⟩ := halves_of x hx
  obtain ⟨ry, hry⟩ := halves_of y hy
  have f1 := fun (w : World) => run_float_arith (P := Try.prog) w .quo 31 .f64 _ _ _ hrx.bits
  have f2 := fun (w : World) => run_float_arith (P := Try.prog) w .quo 31 .f64 _ _ _ hry.bits
  have PN := Lib.hid (fun (w : World) => Point_half_no hrx hry (by unfold halfB; simp only [Bool.and_eq_false_iff, decide_eq_false_iff_not]; omega) w)
  clear hrx hry
  go_enter Try.func3, Try.ntmps3
  go_wp2_with fail
  refine Calls.mono (awake27 w) ?_
  rintro e w1 ⟨rfl, hb⟩
  go_wp2_with fail
  refine Calls.mono (Number_dim A n c _ hn) ?_
  rintro e w2 ⟨rfl, rfl⟩
  go_wp2_with fail
  refine Calls.mono (PN.out _) ?_
  rintro e w2 ⟨rfl, rfl⟩
  go_wp2_with fail
  go_ret
  exact ⟨rfl, (by repeat (first | exact Below.refl _ _ | assumption | (refine Below.drew ?_) | (refine below_drewN' ?_ _) | (refine below_alloc' ?_ _)))⟩

set_option maxHeartbeats 2000000 in
theorem law_dim_b1 (x y : Int) (w : World) (hx : -2147483648 ≤ x ∧ x ≤ 2147483647) (hy : -2147483648 ≤ y ∧ y ≤ 2147483647) (A : Option Addr) (n c : Nat) (hn : n ≠ 2) (h40 : n ≤ 40) (k0 : ¬ x < 0) (k1 : y < 0) :
    Calls Try.prog 3 #[.slice A n c, .int .i32 x, .int .i32 y] w fun e w' => e = .returned (.bool true) ∧ Below w.heap.size w w' := by
  have hz := order_zero
  have hn2 : ((n : Int) != 2) = true := by simp; omega
  obtain ⟨rx, hrx⟩ := halves_of x hx
  obtain ⟨ry, hry⟩ := halves_of y hy
  have f1 := fun (w : World) => run_float_arith (P := Try.prog) w .quo 31 .f64 _ _ _ hrx.bits
  have f2 := fun (w : World) => run_float_arith (P := Try.prog) w .quo 31 .f64 _ _ _ hry.bits
  have PN := Lib.hid (fun (w : World) => Point_half_no hrx hry (by unfold halfB; simp only [Bool.and_eq_false_iff, decide_eq_false_iff_not]; omega) w)
  clear hrx hry
  go_enter Try.func3, Try.ntmps3
  go_wp2_with fail
  refine Calls.mono (awake27 w) ?_
  rintro e w1 ⟨rfl, hb⟩
  go_wp2_with fail
  refine Calls.mono (Number_dim A n c _ hn) ?_
  rintro e w2 ⟨rfl, rfl⟩
  go_wp2_with fail
  refine Calls.mono (PN.out _) ?_
  rintro e w2 ⟨rfl, rfl⟩
  go_wp2_with fail
  go_ret
  exact ⟨rfl, (by repeat (first | exact Below.refl _ _ | assumption | (refine Below.drew ?_) | (refine below_drewN' ?_ _) | (refine below_alloc' ?_ _)))⟩

set_option maxHeartbeats 2000000 in
theorem law_dim_b2 (x y : Int) (w : World) (hx : -2147483648 ≤ x ∧ x ≤ 2147483647) (hy : -2147483648 ≤ y ∧ y ≤ 2147483647) (A : Option Addr) (n c : Nat) (hn : n ≠ 2) (h40 : n ≤ 40) (k0 : ¬ x < 0) (k1 : ¬ y < 0) (k2 : ¬ x % 2 = 0) :
    Calls Try.prog 3 #[.slice A n c, .int .i32 x, .int .i32 y] w fun e w' => e = .returned (.bool true) ∧ Below w.heap.size w w' := by
  have hz := order_zero
  have hn2 : ((n : Int) != 2) = true := by simp; omega
  obtain ⟨rx, hrx⟩ := halves_of x hx
  obtain ⟨ry, hry⟩ := halves_of y hy
  have f1 := fun (w : World) => run_float_arith (P := Try.prog) w .quo 31 .f64 _ _ _ hrx.bits
  have f2 := fun (w : World) => run_float_arith (P := Try.prog) w .quo 31 .f64 _ _ _ hry.bits
  have PN := Lib.hid (fun (w : World) => Point_half_no hrx hry (by unfold halfB; simp only [Bool.and_eq_false_iff, decide_eq_false_iff_not]; omega) w)
  have e2 : (x % 2 != 0) = true := by simp only [bne_iff_ne, ne_eq, bne_eq_false_iff_eq]; exact k2
  clear k2
  clear hrx hry
  go_enter Try.func3, Try.ntmps3
  go_wp2_with fail
  refine Calls.mono (awake27 w) ?_
  rintro e w1 ⟨rfl, hb⟩
  go_wp2_with fail
  refine Calls.mono (Number_dim A n c _ hn) ?_
  rintro e w2 ⟨rfl, rfl⟩
  go_wp2_with fail
  refine Calls.mono (PN.out _) ?_
  rintro e w2 ⟨rfl, rfl⟩
  go_wp2_with fail
  go_ret
  exact ⟨rfl, (by repeat (first | exact Below.refl _ _ | assumption | (refine Below.drew ?_) | (refine below_drewN' ?_ _) | (refine below_alloc' ?_ _)))⟩

set_option maxHeartbeats 2000000 in
theorem law_dim_b3 (x y : Int) (w : World) (hx : -2147483648 ≤ x ∧ x ≤ 2147483647) (hy : -2147483648 ≤ y ∧ y ≤ 2147483647) (A : Option Addr) (n c : Nat) (hn : n ≠ 2) (h40 : n ≤ 40) (k0 : ¬ x < 0) (k1 : ¬ y < 0) (k2 : x % 2 = 0) (k3 : ¬ y % 2 = 0) :
    Calls Try.prog 3 #[.slice A n c, .int .i32 x, .int .i32 y] w fun e w' => e = .returned (.bool true) ∧ Below w.heap.size w w' := by
  have hz := order_zero
  have hn2 : ((n : Int) != 2) = true := by simp; omega
  obtain ⟨rx, hrx⟩ := halves_of x hx
  obtain ⟨ry, hry⟩ := halves_of y hy
  have f1 := fun (w : World) => run_float_arith (P := Try.prog) w .quo 31 .f64 _ _ _ hrx.bits
  have f2 := fun (w : World) => run_float_arith (P := Try.prog) w .quo 31 .f64 _ _ _ hry.bits
  have PN := Lib.hid (fun (w : World) => Point_half_no hrx hry (by unfold halfB; simp only [Bool.and_eq_false_iff, decide_eq_false_iff_not]; omega) w)
  have e2 : (x % 2 != 0) = false := by simp only [bne_iff_ne, ne_eq, bne_eq_false_iff_eq]; exact k2
  clear k2
  have e3 : (y % 2 != 0) = true := by simp only [bne_iff_ne, ne_eq, bne_eq_false_iff_eq]; exact k3
  clear k3
  clear hrx hry
  go_enter Try.func3, Try.ntmps3
  go_wp2_with fail
  refine Calls.mono (awake27 w) ?_
  rintro e w1 ⟨rfl, hb⟩
  go_wp2_with fail
  refine Calls.mono (Number_dim A n c _ hn) ?_
  rintro e w2 ⟨rfl, rfl⟩
  go_wp2_with fail
  refine Calls.mono (PN.out _) ?_
  rintro e w2 ⟨rfl, rfl⟩
  go_wp2_with fail
  go_ret
  exact ⟨rfl, (by repeat (first | exact Below.refl _ _ | assumption | (refine Below.drew ?_) | (refine below_drewN' ?_ _) | (refine below_alloc' ?_ _)))⟩

set_option maxHeartbeats 2000000 in
theorem law_dim_b4 (x y : Int) (w : World) (hx : -2147483648 ≤ x ∧ x ≤ 2147483647) (hy : -2147483648 ≤ y ∧ y ≤ 2147483647) (A : Option Addr) (n c : Nat) (hn : n ≠ 2) (h40 : n ≤ 40) (k0 : ¬ x < 0) (k1 : ¬ y < 0) (k2 : x % 2 = 0) (k3 : y % 2 = 0) (k4 : 1048576 ≤ x / 2) :
    Calls Try.prog 3 #[.slice A n c, .int .i32 x, .int .i32 y] w fun e w' => e = .returned (.bool true) ∧ Below w.heap.size w w' := by
  have hz := order_zero
  have hn2 : ((n : Int) != 2) = true := by simp; omega
  obtain ⟨rx, hrx⟩ := halves_of x hx
  obtain ⟨ry, hry⟩ := halves_of y hy
  have f1 := fun (w : World) => run_float_arith (P := Try.prog) w .quo 31 .f64 _ _ _ hrx.bits
  have f2 := fun (w : World) => run_float_arith (P := Try.prog) w .quo 31 .f64 _ _ _ hry.bits
  have PN := Lib.hid (fun (w : World) => Point_half_no hrx hry (by unfold halfB; simp only [Bool.and_eq_false_iff, decide_eq_false_iff_not]; omega) w)
  have e2 : (x % 2 != 0) = false := by simp only [bne_iff_ne, ne_eq, bne_eq_false_iff_eq]; exact k2
  clear k2
  have e3 : (y % 2 != 0) = false := by simp only [bne_iff_ne, ne_eq, bne_eq_false_iff_eq]; exact k3
  clear k3
  clear hrx hry
  go_enter Try.func3, Try.ntmps3
  go_wp2_with fail
  refine Calls.mono (awake27 w) ?_
  rintro e w1 ⟨rfl, hb⟩
  go_wp2_with fail
  refine Calls.mono (Number_dim A n c _ hn) ?_
  rintro e w2 ⟨rfl, rfl⟩
  go_wp2_with fail
  refine Calls.mono (PN.out _) ?_
  rintro e w2 ⟨rfl, rfl⟩
  go_wp2_with fail
  go_ret
  exact ⟨rfl, (by repeat (first | exact Below.refl _ _ | assumption | (refine Below.drew ?_) | (refine below_drewN' ?_ _) | (refine below_alloc' ?_ _)))⟩

set_option maxHeartbeats 2000000 in
theorem law_dim_b5 (x y : Int) (w : World) (hx : -2147483648 ≤ x ∧ x ≤ 2147483647) (hy : -2147483648 ≤ y ∧ y ≤ 2147483647) (A : Option Addr) (n c : Nat) (hn : n ≠ 2) (h40 : n ≤ 40) (k0 : ¬ x < 0) (k1 : ¬ y < 0) (k2 : x % 2 = 0) (k3 : y % 2 = 0) (k4 : ¬ 1048576 ≤ x / 2) (k5 : 1048576 ≤ y / 2) :
    Calls Try.prog 3 #[.slice A n c, .int .i32 x, .int .i32 y] w fun e w' => e = .returned (.bool true) ∧ Below w.heap.size w w' := by
  have hz := order_zero
  have hn2 : ((n : Int) != 2) = true := by simp; omega
  obtain ⟨rx, hrx⟩ := halves_of x hx
  obtain ⟨ry, hry⟩ := halves_of y hy
  have f1 := fun (w : World) => run_float_arith (P := Try.prog) w .quo 31 .f64 _ _ _ hrx.bits
  have f2 := fun (w : World) => run_float_arith (P := Try.prog) w .quo 31 .f64 _ _ _ hry.bits
  have PN := Lib.hid (fun (w : World) => Point_half_no hrx hry (by unfold halfB; simp only [Bool.and_eq_false_iff, decide_eq_false_iff_not]; omega) w)
  have e2 : (x % 2 != 0) = false := by simp only [bne_iff_ne, ne_eq, bne_eq_false_iff_eq]; exact k2
  clear k2
  have e3 : (y % 2 != 0) = false := by simp only [bne_iff_ne, ne_eq, bne_eq_false_iff_eq]; exact k3
  clear k3
  clear hrx hry
  go_enter Try.func3, Try.ntmps3
  go_wp2_with fail
  refine Calls.mono (awake27 w) ?_
  rintro e w1 ⟨rfl, hb⟩
  go_wp2_with fail
  refine Calls.mono (Number_dim A n c _ hn) ?_
  rintro e w2 ⟨rfl, rfl⟩
  go_wp2_with fail
  refine Calls.mono (PN.out _) ?_
  rintro e w2 ⟨rfl, rfl⟩
  go_wp2_with fail
  go_ret
  exact ⟨rfl, (by repeat (first | exact Below.refl _ _ | assumption | (refine Below.drew ?_) | (refine below_drewN' ?_ _) | (refine below_alloc' ?_ _)))⟩

set_option maxHeartbeats 2000000 in
theorem law_dim_good (x y : Int) (w : World) (hx : -2147483648 ≤ x ∧ x ≤ 2147483647) (hy : -2147483648 ≤ y ∧ y ≤ 2147483647) (A : Option Addr) (n c : Nat) (hn : n ≠ 2) (h40 : n ≤ 40) (k0 : ¬ x < 0) (k1 : ¬ y < 0) (k2 : x % 2 = 0) (k3 : y % 2 = 0) (k4 : ¬ 1048576 ≤ x / 2) (k5 : ¬ 1048576 ≤ y / 2) :
    Calls Try.prog 3 #[.slice A n c, .int .i32 x, .int .i32 y] w fun e w' => e = .returned (.bool true) ∧ Below w.heap.size w w' := by
  have hz := order_zero
  have hn2 : ((n : Int) != 2) = true := by simp; omega
  obtain ⟨rx, hrx⟩ := halves_of x hx
  obtain ⟨ry, hry⟩ := halves_of y hy
  have f1 := fun (w : World) => run_float_arith (P := Try.prog) w .quo 31 .f64 _ _ _ hrx.bits
  have f2 := fun (w : World) => run_float_arith (P := Try.prog) w .quo 31 .f64 _ _ _ hry.bits
  have PY := Lib.hid (fun (w : World) => Point_half_yes_r hrx hry (by unfold halfB; simp only [decide_eq_true_iff]; omega) (by unfold halfB; simp only [decide_eq_true_iff]; omega) w)
  have w1 : IntKind.u64.wrap (x / 2) = x / 2 := IntWalk.u64_in _ (by omega)
  have w2 : IntKind.u64.wrap (y / 2) = y / 2 := IntWalk.u64_in _ (by omega)
  have e2 : (x % 2 != 0) = false := by simp [k2]
  have e3 : (y % 2 != 0) = false := by simp [k3]
  clear k2 k3
  clear hrx hry
  go_enter Try.func3, Try.ntmps3
  go_wp2_with fail
  refine Calls.mono (awake27 w) ?_
  rintro e w1 ⟨rfl, hb⟩
  go_wp2_with fail
  refine Calls.mono (Number_dim A n c _ hn) ?_
  rintro e w2 ⟨rfl, rfl⟩
  go_wp2_with fail
  refine Calls.mono (PY.out _) ?_
  rintro e w5 ⟨v5, rfl, hv5, hb5⟩
  have hb5' : Below w.heap.size w w5 := below_trans (by repeat (first | exact Below.refl _ _ | assumption | (refine Below.drew ?_) | (refine below_drewN' ?_ _) | (refine below_alloc' ?_ _))) hb5
  clear hb5 hb
  go_wp2_with fail
  refine Calls.mono (Same_any _ _ [x / 2, y / 2] [x / 2, y / 2] _ ?_ ?_ (by simp)) ?_
  · exact RdU.below hv5 (by repeat (first | exact Below.refl _ _ | assumption | (refine Below.drew ?_) | (refine below_drewN' ?_ _) | (refine below_alloc' ?_ _)))
  · exact RdU.new2 (by simp)
  rintro e w2 ⟨rfl, n5, rfl⟩
  rw [decide_eq_true (rfl : [x / 2, y / 2] = [x / 2, y / 2])]
  go_wp2_with fail
  go_ret
  exact ⟨rfl, (by repeat (first | exact Below.refl _ _ | assumption | (refine Below.drew ?_) | (refine below_drewN' ?_ _) | (refine below_alloc' ?_ _)))⟩

set_option maxHeartbeats 2000000 in
theorem law_arg_b0 (x y : Int) (w : World) (hx : -2147483648 ≤ x ∧ x ≤ 2147483647) (hy : -2147483648 ≤ y ∧ y ≤ 2147483647) (B o c : Nat) (a b : Int) (h0 : w.cell? ⟨B, o, none⟩ = some (.int .u64 a)) (h1 : w.cell? ⟨B, o + 1, none⟩ = some (.int .u64 b)) (hs : decide (max a b < 1048576) = false) (k0 : x < 0) :
    Calls Try.prog 3 #[.slice (some ⟨B, o, none⟩) 2 c, .int .i32 x, .int .i32 y] w fun e w' => e = .returned (.bool true) ∧ Below w.heap.size w w' := by
  have hz := order_zero
  have HS := Lib.hid (show Pl.smallB [a, b] = false by simp only [decide_eq_false_iff_not] at hs; simp only [Pl.smallB, decide_eq_false_iff_not]; omega)
  obtain ⟨rx, hrx⟩ := halves_of x hx
  obtain ⟨ry, hry⟩ := halves_of y hy
  have f1 := fun (w : World) => run_float_arith (P := Try.prog) w .quo 31 .f64 _ _ _ hrx.bits
  have f2 := fun (w : World) => run_float_arith (P := Try.prog) w .quo 31 .f64 _ _ _ hry.bits
  have PN := Lib.hid (fun (w : World) => Point_half_no hrx hry (by unfold halfB; simp only [Bool.and_eq_false_iff, decide_eq_false_iff_not]; omega) w)
  clear hrx hry
  go_enter Try.func3, Try.ntmps3
  go_wp2_with fail
  refine Calls.mono (awake27 w) ?_
  rintro e w1 ⟨rfl, hb⟩
  go_wp2_with fail
  refine Calls.mono (Number_arg B o c a b _ (Below.keeps hb _ _ h0) (Below.keeps hb _ _ h1) hs) ?_
  rintro e w2 ⟨rfl, n2, rfl⟩
  go_wp2_with fail
  refine Calls.mono (Small_any _ [a, b] _ ?_) ?_
  · exact RdU.below (RdU.two h0 h1) (by repeat (first | exact Below.refl _ _ | assumption | (refine Below.drew ?_) | (refine below_drewN' ?_ _) | (refine below_alloc' ?_ _)))
  rintro e w2 ⟨rfl, rfl⟩
  rw [HS.out]
  go_wp2_with fail
  refine Calls.mono (PN.out _) ?_
  rintro e w2 ⟨rfl, rfl⟩
  go_wp2_with fail
  go_ret
  exact ⟨rfl, (by repeat (first | exact Below.refl _ _ | assumption | (refine Below.drew ?_) | (refine below_drewN' ?_ _) | (refine below_alloc' ?_ _)))⟩

set_option maxHeartbeats 2000000 in
theorem law_arg_b1 (x y : Int) (w : World) (hx : -2147483648 ≤ x ∧ x ≤ 2147483647) (hy : -2147483648 ≤ y ∧ y ≤ 2147483647) (B o c : Nat) (a b : Int) (h0 : w.cell? ⟨B, o, none⟩ = some (.int .u64 a)) (h1 : w.cell? ⟨B, o + 1, none⟩ = some (.int .u64 b)) (hs : decide (max a b < 1048576) = false) (k0 : ¬ x < 0) (k1 : y < 0) :
    Calls Try.prog 3 #[.slice (some ⟨B, o, none⟩) 2 c, .int .i32 x, .int .i32 y] w fun e w' => e = .returned (.bool true) ∧ Below w.heap.size w w' := by
  have hz := order_zero
  have HS := Lib.hid (show Pl.smallB [a, b] = false by simp only [decide_eq_false_iff_not] at hs; simp only [Pl.smallB, decide_eq_false_iff_not]; omega)
  obtain ⟨rx, hrx⟩ := halves_of x hx
  obtain ⟨ry, hry⟩ := halves_of y hy
  have f1 := fun (w : World) => run_float_arith (P := Try.prog) w .quo 31 .f64 _ _ _ hrx.bits
  have f2 := fun (w : World) => run_float_arith (P := Try.prog) w .quo 31 .f64 _ _ _ hry.bits
  have PN := Lib.hid (fun (w : World) => Point_half_no hrx hry (by unfold halfB; simp only [Bool.and_eq_false_iff, decide_eq_false_iff_not]; omega) w)
  clear hrx hry
  go_enter Try.func3, Try.ntmps3
  go_wp2_with fail
  refine Calls.mono (awake27 w) ?_
  rintro e w1 ⟨rfl, hb⟩
  go_wp2_with fail
  refine Calls.mono (Number_arg B o c a b _ (Below.keeps hb _ _ h0) (Below.keeps hb _ _ h1) hs) ?_
  rintro e w2 ⟨rfl, n2, rfl⟩
  go_wp2_with fail
  refine Calls.mono (Small_any _ [a, b] _ ?_) ?_
  · exact RdU.below (RdU.two h0 h1) (by repeat (first | exact Below.refl _ _ | assumption | (refine Below.drew ?_) | (refine below_drewN' ?_ _) | (refine below_alloc' ?_ _)))
  rintro e w2 ⟨rfl, rfl⟩
  rw [HS.out]
  go_wp2_with fail
  refine Calls.mono (PN.out _) ?_
  rintro e w2 ⟨rfl, rfl⟩
  go_wp2_with fail
  go_ret
  exact ⟨rfl, (by repeat (first | exact Below.refl _ _ | assumption | (refine Below.drew ?_) | (refine below_drewN' ?_ _) | (refine below_alloc' ?_ _)))⟩

set_option maxHeartbeats 2000000 in
theorem law_arg_b2 (x y : Int) (w : World) (hx : -2147483648 ≤ x ∧ x ≤ 2147483647) (hy : -2147483648 ≤ y ∧ y ≤ 2147483647) (B o c : Nat) (a b : Int) (h0 : w.cell? ⟨B, o, none⟩ = some (.int .u64 a)) (h1 : w.cell? ⟨B, o + 1, none⟩ = some (.int .u64 b)) (hs : decide (max a b < 1048576) = false) (k0 : ¬ x < 0) (k1 : ¬ y < 0) (k2 : ¬ x % 2 = 0) :
    Calls Try.prog 3 #[.slice (some ⟨B, o, none⟩) 2 c, .int .i32 x, .int .i32 y] w fun e w' => e = .returned (.bool true) ∧ Below w.heap.size w w' := by
  have hz := order_zero
  have HS := Lib.hid (show Pl.smallB [a, b] = false by simp only [decide_eq_false_iff_not] at hs; simp only [Pl.smallB, decide_eq_false_iff_not]; omega)
  obtain ⟨rx, hrx⟩ := halves_of x hx
  obtain ⟨ry, hry⟩ := halves_of y hy
  have f1 := fun (w : World) => run_float_arith (P := Try.prog) w .quo 31 .f64 _ _ _ hrx.bits
  have f2 := fun (w : World) => run_float_arith (P := Try.prog) w .quo 31 .f64 _ _ _ hry.bits
  have PN := Lib.hid (fun (w : World) => Point_half_no hrx hry (by unfold halfB; simp only [Bool.and_eq_false_iff, decide_eq_false_iff_not]; omega) w)
  have e2 : (x % 2 != 0) = true := by simp only [bne_iff_ne, ne_eq, bne_eq_false_iff_eq]; exact k2
  clear k2
  clear hrx hry
  go_enter Try.func3, Try.ntmps3
  go_wp2_with fail
  refine Calls.mono (awake27 w) ?_
  rintro e w1 ⟨rfl, hb⟩
  go_wp2_with fail
  refine Calls.mono (Number_arg B o c a b _ (Below.keeps hb _ _ h0) (Below.keeps hb _ _ h1) hs) ?_
  rintro e w2 ⟨rfl, n2, rfl⟩
  go_wp2_with fail
  refine Calls.mono (Small_any _ [a, b] _ ?_) ?_
  · exact RdU.below (RdU.two h0 h1) (by repeat (first | exact Below.refl _ _ | assumption | (refine Below.drew ?_) | (refine below_drewN' ?_ _) | (refine below_alloc' ?_ _)))
  rintro e w2 ⟨rfl, rfl⟩
  rw [HS.out]
  go_wp2_with fail
  refine Calls.mono (PN.out _) ?_
  rintro e w2 ⟨rfl, rfl⟩
  go_wp2_with fail
  go_ret
  exact ⟨rfl, (by repeat (first | exact Below.refl _ _ | assumption | (refine Below.drew ?_) | (refine below_drewN' ?_ _) | (refine below_alloc' ?_ _)))⟩

set_option maxHeartbeats 2000000 in
theorem law_arg_b3 (x y : Int) (w : World) (hx : -2147483648 ≤ x ∧ x ≤ 2147483647) (hy : -2147483648 ≤ y ∧ y ≤ 2147483647) (B o c : Nat) (a b : Int) (h0 : w.cell? ⟨B, o, none⟩ = some (.int .u64 a)) (h1 : w.cell? ⟨B, o + 1, none⟩ = some (.int .u64 b)) (hs : decide (max a b < 1048576) = false) (k0 : ¬ x < 0) (k1 : ¬ y < 0) (k2 : x % 2 = 0) (k3 : ¬ y % 2 = 0) :
    Calls Try.prog 3 #[.slice (some ⟨B, o, none⟩) 2 c, .int .i32 x, .int .i32 y] w fun e w' => e = .returned (.bool true) ∧ Below w.heap.size w w' := by
  have hz := order_zero
  have HS := Lib.hid (show Pl.smallB [a, b] = false by simp only [decide_eq_false_iff_not] at hs; simp only [Pl.smallB, decide_eq_false_iff_not]; omega)
  obtain ⟨rx, hrx⟩ := halves_of x hx
  obtain ⟨ry, hry⟩ := halves_of y hy
  have f1 := fun (w : World) => run_float_arith (P := Try.prog) w .quo 31 .f64 _ _ _ hrx.bits
  have f2 := fun (w : World) => run_float_arith (P := Try.prog) w .quo 31 .f64 _ _ _ hry.bits
  have PN := Lib.hid (fun (w : World) => Point_half_no hrx hry (by unfold halfB; simp only [Bool.and_eq_false_iff, decide_eq_false_iff_not]; omega) w)
  have e2 : (x % 2 != 0) = false := by simp only [bne_iff_ne, ne_eq, bne_eq_false_iff_eq]; exact k2
  clear k2
  have e3 : (y % 2 != 0) = true := by simp only [bne_iff_ne, ne_eq, bne_eq_false_iff_eq]; exact k3
  clear k3
  clear hrx hry
  go_enter Try.func3, Try.ntmps3
  go_wp2_with fail
  refine Calls.mono (awake27 w) ?_
  rintro e w1 ⟨rfl, hb⟩
  go_wp2_with fail
  refine Calls.mono (Number_arg B o c a b _ (Below.keeps hb _ _ h0) (Below.keeps hb _ _ h1) hs) ?_
  rintro e w2 ⟨rfl, n2, rfl⟩
  go_wp2_with fail
  refine Calls.mono (Small_any _ [a, b] _ ?_) ?_
  · exact RdU.below (RdU.two h0 h1) (by repeat (first | exact Below.refl _ _ | assumption | (refine Below.drew ?_) | (refine below_drewN' ?_ _) | (refine below_alloc' ?_ _)))
  rintro e w2 ⟨rfl, rfl⟩
  rw [HS.out]
  go_wp2_with fail
  refine Calls.mono (PN.out _) ?_
  rintro e w2 ⟨rfl, rfl⟩
  go_wp2_with fail
  go_ret
  exact ⟨rfl, (by repeat (first | exact Below.refl _ _ | assumption | (refine Below.drew ?_) | (refine below_drewN' ?_ _) | (refine below_alloc' ?_ _)))⟩

set_option maxHeartbeats 2000000 in
theorem law_arg_b4 (x y : Int) (w : World) (hx : -2147483648 ≤ x ∧ x ≤ 2147483647) (hy : -2147483648 ≤ y ∧ y ≤ 2147483647) (B o c : Nat) (a b : Int) (h0 : w.cell? ⟨B, o, none⟩ = some (.int .u64 a)) (h1 : w.cell? ⟨B, o + 1, none⟩ = some (.int .u64 b)) (hs : decide (max a b < 1048576) = false) (k0 : ¬ x < 0) (k1 : ¬ y < 0) (k2 : x % 2 = 0) (k3 : y % 2 = 0) (k4 : 1048576 ≤ x / 2) :
    Calls Try.prog 3 #[.slice (some ⟨B, o, none⟩) 2 c, .int .i32 x, .int .i32 y] w fun e w' => e = .returned (.bool true) ∧ Below w.heap.size w w' := by
  have hz := order_zero
  have HS := Lib.hid (show Pl.smallB [a, b] = false by simp only [decide_eq_false_iff_not] at hs; simp only [Pl.smallB, decide_eq_false_iff_not]; omega)
  obtain ⟨rx, hrx⟩ := halves_of x hx
  obtain ⟨ry, hry⟩ := halves_of y hy
  have f1 := fun (w : World) => run_float_arith (P := Try.prog) w .quo 31 .f64 _ _ _ hrx.bits
  have f2 := fun (w : World) => run_float_arith (P := Try.prog) w .quo 31 .f64 _ _ _ hry.bits
  have PN := Lib.hid (fun (w : World) => Point_half_no hrx hry (by unfold halfB; simp only [Bool.and_eq_false_iff, decide_eq_false_iff_not]; omega) w)
  have e2 : (x % 2 != 0) = false := by simp only [bne_iff_ne, ne_eq, bne_eq_false_iff_eq]; exact k2
  clear k2
  have e3 : (y % 2 != 0) = false := by simp only [bne_iff_ne, ne_eq, bne_eq_false_iff_eq]; exact k3
  clear k3
  clear hrx hry
  go_enter Try.func3, Try.ntmps3
  go_wp2_with fail
  refine Calls.mono (awake27 w) ?_
  rintro e w1 ⟨rfl, hb⟩
  go_wp2_with fail
  refine Calls.mono (Number_arg B o c a b _ (Below.keeps hb _ _ h0) (Below.keeps hb _ _ h1) hs) ?_
  rintro e w2 ⟨rfl, n2, rfl⟩
  go_wp2_with fail
  refine Calls.mono (Small_any _ [a, b] _ ?_) ?_
  · exact RdU.below (RdU.two h0 h1) (by repeat (first | exact Below.refl _ _ | assumption | (refine Below.drew ?_) | (refine below_drewN' ?_ _) | (refine below_alloc' ?_ _)))
  rintro e w2 ⟨rfl, rfl⟩
  rw [HS.out]
  go_wp2_with fail
  refine Calls.mono (PN.out _) ?_
  rintro e w2 ⟨rfl, rfl⟩
  go_wp2_with fail
  go_ret
  exact ⟨rfl, (by repeat (first | exact Below.refl _ _ | assumption | (refine Below.drew ?_) | (refine below_drewN' ?_ _) | (refine below_alloc' ?_ _)))⟩

set_option maxHeartbeats 2000000 in
theorem law_arg_b5 (x y : Int) (w : World) (hx : -2147483648 ≤ x ∧ x ≤ 2147483647) (hy : -2147483648 ≤ y ∧ y ≤ 2147483647) (B o c : Nat) (a b : Int) (h0 : w.cell? ⟨B, o, none⟩ = some (.int .u64 a)) (h1 : w.cell? ⟨B, o + 1, none⟩ = some (.int .u64 b)) (hs : decide (max a b < 1048576) = false) (k0 : ¬ x < 0) (k1 : ¬ y < 0) (k2 : x % 2 = 0) (k3 : y % 2 = 0) (k4 : ¬ 1048576 ≤ x / 2) (k5 : 1048576 ≤ y / 2) :
    Calls Try.prog 3 #[.slice (some ⟨B, o, none⟩) 2 c, .int .i32 x, .int .i32 y] w fun e w' => e = .returned (.bool true) ∧ Below w.heap.size w w' := by
  have hz := order_zero
  have HS := Lib.hid (show Pl.smallB [a, b] = false by simp only [decide_eq_false_iff_not] at hs; simp only [Pl.smallB, decide_eq_false_iff_not]; omega)
  obtain ⟨rx, hrx⟩ := halves_of x hx
  obtain ⟨ry, hry⟩ := halves_of y hy
  have f1 := fun (w : World) => run_float_arith (P := Try.prog) w .quo 31 .f64 _ _ _ hrx.bits
  have f2 := fun (w : World) => run_float_arith (P := Try.prog) w .quo 31 .f64 _ _ _ hry.bits
  have PN := Lib.hid (fun (w : World) => Point_half_no hrx hry (by unfold halfB; simp only [Bool.and_eq_false_iff, decide_eq_false_iff_not]; omega) w)
  have e2 : (x % 2 != 0) = false := by simp only [bne_iff_ne, ne_eq, bne_eq_false_iff_eq]; exact k2
  clear k2
  have e3 : (y % 2 != 0) = false := by simp only [bne_iff_ne, ne_eq, bne_eq_false_iff_eq]; exact k3
  clear k3
  clear hrx hry
  go_enter Try.func3, Try.ntmps3
  go_wp2_with fail
  refine Calls.mono (awake27 w) ?_
  rintro e w1 ⟨rfl, hb⟩
  go_wp2_with fail
  refine Calls.mono (Number_arg B o c a b _ (Below.keeps hb _ _ h0) (Below.keeps hb _ _ h1) hs) ?_
  rintro e w2 ⟨rfl, n2, rfl⟩
  go_wp2_with fail
  refine Calls.mono (Small_any _ [a, b] _ ?_) ?_
  · exact RdU.below (RdU.two h0 h1) (by repeat (first | exact Below.refl _ _ | assumption | (refine Below.drew ?_) | (refine below_drewN' ?_ _) | (refine below_alloc' ?_ _)))
  rintro e w2 ⟨rfl, rfl⟩
  rw [HS.out]
  go_wp2_with fail
  refine Calls.mono (PN.out _) ?_
  rintro e w2 ⟨rfl, rfl⟩
  go_wp2_with fail
  go_ret
  exact ⟨rfl, (by repeat (first | exact Below.refl _ _ | assumption | (refine Below.drew ?_) | (refine below_drewN' ?_ _) | (refine below_alloc' ?_ _)))⟩

set_option maxHeartbeats 2000000 in
theorem law_arg_good (x y : Int) (w : World) (hx : -2147483648 ≤ x ∧ x ≤ 2147483647) (hy : -2147483648 ≤ y ∧ y ≤ 2147483647) (B o c : Nat) (a b : Int) (h0 : w.cell? ⟨B, o, none⟩ = some (.int .u64 a)) (h1 : w.cell? ⟨B, o + 1, none⟩ = some (.int .u64 b)) (hs : decide (max a b < 1048576) = false) (k0 : ¬ x < 0) (k1 : ¬ y < 0) (k2 : x % 2 = 0) (k3 : y % 2 = 0) (k4 : ¬ 1048576 ≤ x / 2) (k5 : ¬ 1048576 ≤ y / 2) :
    Calls Try.prog 3 #[.slice (some ⟨B, o, none⟩) 2 c, .int .i32 x, .int .i32 y] w fun e w' => e = .returned (.bool true) ∧ Below w.heap.size w w' := by
  have hz := order_zero
  have HS := Lib.hid (show Pl.smallB [a, b] = false by simp only [decide_eq_false_iff_not] at hs; simp only [Pl.smallB, decide_eq_false_iff_not]; omega)
  obtain ⟨rx, hrx⟩ := halves_of x hx
  obtain ⟨ry, hry⟩ := halves_of y hy
  have f1 := fun (w : World) => run_float_arith (P := Try.prog) w .quo 31 .f64 _ _ _ hrx.bits
  have f2 := fun (w : World) => run_float_arith (P := Try.prog) w .quo 31 .f64 _ _ _ hry.bits
  have PY := Lib.hid (fun (w : World) => Point_half_yes_r hrx hry (by unfold halfB; simp only [decide_eq_true_iff]; omega) (by unfold halfB; simp only [decide_eq_true_iff]; omega) w)
  have w1 : IntKind.u64.wrap (x / 2) = x / 2 := IntWalk.u64_in _ (by omega)
  have w2 : IntKind.u64.wrap (y / 2) = y / 2 := IntWalk.u64_in _ (by omega)
  have e2 : (x % 2 != 0) = false := by simp [k2]
  have e3 : (y % 2 != 0) = false := by simp [k3]
  clear k2 k3
  clear hrx hry
  go_enter Try.func3, Try.ntmps3
  go_wp2_with fail
  refine Calls.mono (awake27 w) ?_
  rintro e w1 ⟨rfl, hb⟩
  go_wp2_with fail
  refine Calls.mono (Number_arg B o c a b _ (Below.keeps hb _ _ h0) (Below.keeps hb _ _ h1) hs) ?_
  rintro e w2 ⟨rfl, n2, rfl⟩
  go_wp2_with fail
  refine Calls.mono (Small_any _ [a, b] _ ?_) ?_
  · exact RdU.below (RdU.two h0 h1) (by repeat (first | exact Below.refl _ _ | assumption | (refine Below.drew ?_) | (refine below_drewN' ?_ _) | (refine below_alloc' ?_ _)))
  rintro e w2 ⟨rfl, rfl⟩
  rw [HS.out]
  go_wp2_with fail
  refine Calls.mono (PY.out _) ?_
  rintro e w5 ⟨v5, rfl, hv5, hb5⟩
  have hb5' : Below w.heap.size w w5 := below_trans (by repeat (first | exact Below.refl _ _ | assumption | (refine Below.drew ?_) | (refine below_drewN' ?_ _) | (refine below_alloc' ?_ _))) hb5
  clear hb5 hb
  go_wp2_with fail
  refine Calls.mono (Same_any _ _ [x / 2, y / 2] [x / 2, y / 2] _ ?_ ?_ (by simp)) ?_
  · exact RdU.below hv5 (by repeat (first | exact Below.refl _ _ | assumption | (refine Below.drew ?_) | (refine below_drewN' ?_ _) | (refine below_alloc' ?_ _)))
  · exact RdU.new2 (by simp)
  rintro e w2 ⟨rfl, n5, rfl⟩
  rw [decide_eq_true (rfl : [x / 2, y / 2] = [x / 2, y / 2])]
  go_wp2_with fail
  go_ret
  exact ⟨rfl, (by repeat (first | exact Below.refl _ _ | assumption | (refine Below.drew ?_) | (refine below_drewN' ?_ _) | (refine below_alloc' ?_ _)))⟩

set_option maxHeartbeats 2000000 in
theorem law_fine_b0 (x y : Int) (w : World) (hx : -2147483648 ≤ x ∧ x ≤ 2147483647) (hy : -2147483648 ≤ y ∧ y ≤ 2147483647) (B o c : Nat) (a b : Int) (ha : 0 ≤ a) (hab : 0 ≤ b) (h0 : w.cell? ⟨B, o, none⟩ = some (.int .u64 a)) (h1 : w.cell? ⟨B, o + 1, none⟩ = some (.int .u64 b)) (hs : decide (max a b < 1048576) = true) (k0 : x < 0) :
    Calls Try.prog 3 #[.slice (some ⟨B, o, none⟩) 2 c, .int .i32 x, .int .i32 y] w fun e w' => e = .returned (.bool true) ∧ Below w.heap.size w w' := by
  have hab2 : a < 1048576 ∧ b < 1048576 := by simp only [decide_eq_true_iff] at hs; omega
  have hz := order_self a (by omega)
  have hz2 := order_self b (by omega)
  have HS := Lib.hid (show Pl.smallB [a, b] = true by simp [Pl.smallB, hab2])
  have HCa := Lib.hid (show Pl.coordB a = true by simp [Pl.coordB]; omega)
  have HCb := Lib.hid (show Pl.coordB b = true by simp [Pl.coordB]; omega)
  obtain ⟨rx, hrx⟩ := halves_of x hx
  obtain ⟨ry, hry⟩ := halves_of y hy
  have f1 := fun (w : World) => run_float_arith (P := Try.prog) w .quo 31 .f64 _ _ _ hrx.bits
  have f2 := fun (w : World) => run_float_arith (P := Try.prog) w .quo 31 .f64 _ _ _ hry.bits
  have PN := Lib.hid (fun (w : World) => Point_half_no hrx hry (by unfold halfB; simp only [Bool.and_eq_false_iff, decide_eq_false_iff_not]; omega) w)
  clear hrx hry
  go_enter Try.func3, Try.ntmps3
  go_wp2_with fail
  refine Calls.mono (awake27 w) ?_
  rintro e w1 ⟨rfl, hb⟩
  go_wp2_with fail
  refine Calls.mono (Number_fine B o c a b _ (Below.keeps hb _ _ h0) (Below.keeps hb _ _ h1) hs) ?_
  rintro e w2 ⟨rfl, n2, rfl⟩
  go_wp2_with fail
  refine Calls.mono (Small_any _ [a, b] _ ?_) ?_
  · exact RdU.below (RdU.two h0 h1) (by repeat (first | exact Below.refl _ _ | assumption | (refine Below.drew ?_) | (refine below_drewN' ?_ _) | (refine below_alloc' ?_ _)))
  rintro e w2 ⟨rfl, rfl⟩
  rw [HS.out]
  go_wp2_with fail
  refine Calls.mono (Point_yes_r _ _ a b _ (Val.ofInt (abs_lt _ (by omega))) (Val.ofInt (abs_lt _ (by omega))) HCa.out HCb.out) ?_
  rintro e w2 ⟨v2, rfl, hv2, hb2⟩
  have hb2' : Below w.heap.size w w2 := below_trans (by repeat (first | exact Below.refl _ _ | assumption | (refine Below.drew ?_) | (refine below_drewN' ?_ _) | (refine below_alloc' ?_ _))) hb2
  clear hb2 hb
  have hb := hb2'
  clear hb2'
  have q0 := Below.keeps hb _ _ h0
  have q1 := Below.keeps hb _ _ h1
  go_wp2_with fail
  refine Calls.mono (Same_any _ _ [a, b] [a, b] _ ?_ ?_ (by simp)) ?_
  · exact RdU.below hv2 (by repeat (first | exact Below.refl _ _ | assumption | (refine Below.drew ?_) | (refine below_drewN' ?_ _) | (refine below_alloc' ?_ _)))
  · exact RdU.below (RdU.two h0 h1) (by repeat (first | exact Below.refl _ _ | assumption | (refine Below.drew ?_) | (refine below_drewN' ?_ _) | (refine below_alloc' ?_ _)))
  rintro e w2 ⟨rfl, n3, rfl⟩
  rw [decide_eq_true (rfl : [a, b] = [a, b])]
  clear q0 q1
  go_wp2_with fail
  refine Calls.mono (PN.out _) ?_
  rintro e w2 ⟨rfl, rfl⟩
  go_wp2_with fail
  go_ret
  exact ⟨rfl, (by repeat (first | exact Below.refl _ _ | assumption | (refine Below.drew ?_) | (refine below_drewN' ?_ _) | (refine below_alloc' ?_ _)))⟩

set_option maxHeartbeats 2000000 in
theorem law_fine_b1 (x y : Int) (w : World) (hx : -2147483648 ≤ x ∧ x ≤ 2147483647) (hy : -2147483648 ≤ y ∧ y ≤ 2147483647) (B o c : Nat) (a b : Int) (ha : 0 ≤ a) (hab : 0 ≤ b) (h0 : w.cell? ⟨B, o, none⟩ = some (.int .u64 a)) (h1 : w.cell? ⟨B, o + 1, none⟩ = some (.int .u64 b)) (hs : decide (max a b < 1048576) = true) (k0 : ¬ x < 0) (k1 : y < 0) :
    Calls Try.prog 3 #[.slice (some ⟨B, o, none⟩) 2 c, .int .i32 x, .int .i32 y] w fun e w' => e = .returned (.bool true) ∧ Below w.heap.size w w' := by
  have hab2 : a < 1048576 ∧ b < 1048576 := by simp only [decide_eq_true_iff] at hs; omega
  have hz := order_self a (by omega)
  have hz2 := order_self b (by omega)
  have HS := Lib.hid (show Pl.smallB [a, b] = true by simp [Pl.smallB, hab2])
  have HCa := Lib.hid (show Pl.coordB a = true by simp [Pl.coordB]; omega)
  have HCb := Lib.hid (show Pl.coordB b = true by simp [Pl.coordB]; omega)
  obtain ⟨rx, hrx⟩ := halves_of x hx
  obtain ⟨ry, hry⟩ := halves_of y hy
  have f1 := fun (w : World) => run_float_arith (P := Try.prog) w .quo 31 .f64 _ _ _ hrx.bits
  have f2 := fun (w : World) => run_float_arith (P := Try.prog) w .quo 31 .f64 _ _ _ hry.bits
  have PN := Lib.hid (fun (w : World) => Point_half_no hrx hry (by unfold halfB; simp only [Bool.and_eq_false_iff, decide_eq_false_iff_not]; omega) w)
  clear hrx hry
  go_enter Try.func3, Try.ntmps3
  go_wp2_with fail
  refine Calls.mono (awake27 w) ?_
  rintro e w1 ⟨rfl, hb⟩
  go_wp2_with fail
  refine Calls.mono (Number_fine B o c a b _ (Below.keeps hb _ _ h0) (Below.keeps hb _ _ h1) hs) ?_
  rintro e w2 ⟨rfl, n2, rfl⟩
  go_wp2_with fail
  refine Calls.mono (Small_any _ [a, b] _ ?_) ?_
  · exact RdU.below (RdU.two h0 h1) (by repeat (first | exact Below.refl _ _ | assumption | (refine Below.drew ?_) | (refine below_drewN' ?_ _) | (refine below_alloc' ?_ _)))
  rintro e w2 ⟨rfl, rfl⟩
  rw [HS.out]
  go_wp2_with fail
  refine Calls.mono (Point_yes_r _ _ a b _ (Val.ofInt (abs_lt _ (by omega))) (Val.ofInt (abs_lt _ (by omega))) HCa.out HCb.out) ?_
  rintro e w2 ⟨v2, rfl, hv2, hb2⟩
  have hb2' : Below w.heap.size w w2 := below_trans (by repeat (first | exact Below.refl _ _ | assumption | (refine Below.drew ?_) | (refine below_drewN' ?_ _) | (refine below_alloc' ?_ _))) hb2
  clear hb2 hb
  have hb := hb2'
  clear hb2'
  have q0 := Below.keeps hb _ _ h0
  have q1 := Below.keeps hb _ _ h1
  go_wp2_with fail
  refine Calls.mono (Same_any _ _ [a, b] [a, b] _ ?_ ?_ (by simp)) ?_
  · exact RdU.below hv2 (by repeat (first | exact Below.refl _ _ | assumption | (refine Below.drew ?_) | (refine below_drewN' ?_ _) | (refine below_alloc' ?_ _)))
  · exact RdU.below (RdU.two h0 h1) (by repeat (first | exact Below.refl _ _ | assumption | (refine Below.drew ?_) | (refine below_drewN' ?_ _) | (refine below_alloc' ?_ _)))
  rintro e w2 ⟨rfl, n3, rfl⟩
  rw [decide_eq_true (rfl : [a, b] = [a, b])]
  clear q0 q1
  go_wp2_with fail
  refine Calls.mono (PN.out _) ?_
  rintro e w2 ⟨rfl, rfl⟩
  go_wp2_with fail
  go_ret
  exact ⟨rfl, (by repeat (first | exact Below.refl _ _ | assumption | (refine Below.drew ?_) | (refine below_drewN' ?_ _) | (refine below_alloc' ?_ _)))⟩

set_option maxHeartbeats 2000000 in
theorem law_fine_b2 (x y : Int) (w : World) (hx : -2147483648 ≤ x ∧ x ≤ 2147483647) (hy : -2147483648 ≤ y ∧ y ≤ 2147483647) (B o c : Nat) (a b : Int) (ha : 0 ≤ a) (hab : 0 ≤ b) (h0 : w.cell? ⟨B, o, none⟩ = some (.int .u64 a)) (h1 : w.cell? ⟨B, o + 1, none⟩ = some (.int .u64 b)) (hs : decide (max a b < 1048576) = true) (k0 : ¬ x < 0) (k1 : ¬ y < 0) (k2 : ¬ x % 2 = 0) :
    Calls Try.prog 3 #[.slice (some ⟨B, o, none⟩) 2 c, .int .i32 x, .int .i32 y] w fun e w' => e = .returned (.bool true) ∧ Below w.heap.size w w' := by
  have hab2 : a < 1048576 ∧ b < 1048576 := by simp only [decide_eq_true_iff] at hs; omega
  have hz := order_self a (by omega)
  have hz2 := order_self b (by omega)
  have HS := Lib.hid (show Pl.smallB [a, b] = true by simp [Pl.smallB, hab2])
  have HCa := Lib.hid (show Pl.coordB a = true by simp [Pl.coordB]; omega)
  have HCb := Lib.hid (show Pl.coordB b = true by simp [Pl.coordB]; omega)
  obtain ⟨rx, hrx⟩ := halves_of x hx
  obtain ⟨ry, hry⟩ := halves_of y hy
  have f1 := fun (w : World) => run_float_arith (P := Try.prog) w .quo 31 .f64 _ _ _ hrx.bits
  have f2 := fun (w : World) => run_float_arith (P := Try.prog) w .quo 31 .f64 _ _ _ hry.bits
  have PN := Lib.hid (fun (w : World) => Point_half_no hrx hry (by unfold halfB; simp only [Bool.and_eq_false_iff, decide_eq_false_iff_not]; omega) w)
  have e2 : (x % 2 != 0) = true := by simp only [bne_iff_ne, ne_eq, bne_eq_false_iff_eq]; exact k2
  clear k2
  clear hrx hry
  go_enter Try.func3, Try.ntmps3
  go_wp2_with fail
  refine Calls.mono (awake27 w) ?_
  rintro e w1 ⟨rfl, hb⟩
  go_wp2_with fail
  refine Calls.mono (Number_fine B o c a b _ (Below.keeps hb _ _ h0) (Below.keeps hb _ _ h1) hs) ?_
  rintro e w2 ⟨rfl, n2, rfl⟩
  go_wp2_with fail
  refine Calls.mono (Small_any _ [a, b] _ ?_) ?_
  · exact RdU.below (RdU.two h0 h1) (by repeat (first | exact Below.refl _ _ | assumption | (refine Below.drew ?_) | (refine below_drewN' ?_ _) | (refine below_alloc' ?_ _)))
  rintro e w2 ⟨rfl, rfl⟩
  rw [HS.out]
  go_wp2_with fail
  refine Calls.mono (Point_yes_r _ _ a b _ (Val.ofInt (abs_lt _ (by omega))) (Val.ofInt (abs_lt _ (by omega))) HCa.out HCb.out) ?_
  rintro e w2 ⟨v2, rfl, hv2, hb2⟩
  have hb2' : Below w.heap.size w w2 := below_trans (by repeat (first | exact Below.refl _ _ | assumption | (refine Below.drew ?_) | (refine below_drewN' ?_ _) | (refine below_alloc' ?_ _))) hb2
  clear hb2 hb
  have hb := hb2'
  clear hb2'
  have q0 := Below.keeps hb _ _ h0
  have q1 := Below.keeps hb _ _ h1
  go_wp2_with fail
  refine Calls.mono (Same_any _ _ [a, b] [a, b] _ ?_ ?_ (by simp)) ?_
  · exact RdU.below hv2 (by repeat (first | exact Below.refl _ _ | assumption | (refine Below.drew ?_) | (refine below_drewN' ?_ _) | (refine below_alloc' ?_ _)))
  · exact RdU.below (RdU.two h0 h1) (by repeat (first | exact Below.refl _ _ | assumption | (refine Below.drew ?_) | (refine below_drewN' ?_ _) | (refine below_alloc' ?_ _)))
  rintro e w2 ⟨rfl, n3, rfl⟩
  rw [decide_eq_true (rfl : [a, b] = [a, b])]
  clear q0 q1
  go_wp2_with fail
  refine Calls.mono (PN.out _) ?_
  rintro e w2 ⟨rfl, rfl⟩
  go_wp2_with fail
  go_ret
  exact ⟨rfl, (by repeat (first | exact Below.refl _ _ | assumption | (refine Below.drew ?_) | (refine below_drewN' ?_ _) | (refine below_alloc' ?_ _)))⟩

set_option maxHeartbeats 2000000 in
theorem law_fine_b3 (x y : Int) (w : World) (hx : -2147483648 ≤ x ∧ x ≤ 2147483647) (hy : -2147483648 ≤ y ∧ y ≤ 2147483647) (B o c : Nat) (a b : Int) (ha : 0 ≤ a) (hab : 0 ≤ b) (h0 : w.cell? ⟨B, o, none⟩ = some (.int .u64 a)) (h1 : w.cell? ⟨B, o + 1, none⟩ = some (.int .u64 b)) (hs : decide (max a b < 1048576) = true) (k0 : ¬ x < 0) (k1 : ¬ y < 0) (k2 : x % 2 = 0) (k3 : ¬ y % 2 = 0) :
    Calls Try.prog 3 #[.slice (some ⟨B, o, none⟩) 2 c, .int .i32 x, .int .i32 y] w fun e w' => e = .returned (.bool true) ∧ Below w.heap.size w w' := by
  have hab2 : a < 1048576 ∧ b < 1048576 := by simp only [decide_eq_true_iff] at hs; omega
  have hz := order_self a (by omega)
  have hz2 := order_self b (by omega)
  have HS := Lib.hid (show Pl.smallB [a, b] = true by simp [Pl.smallB, hab2])
  have HCa := Lib.hid (show Pl.coordB a = true by simp [Pl.coordB]; omega)
  have HCb := Lib.hid (show Pl.coordB b = true by simp [Pl.coordB]; omega)
  obtain ⟨rx, hrx⟩ := halves_of x hx
  obtain ⟨ry, hry⟩ := halves_of y hy
  have f1 := fun (w : World) => run_float_arith (P := Try.prog) w .quo 31 .f64 _ _ _ hrx.bits
  have f2 := fun (w : World) => run_float_arith (P := Try.prog) w .quo 31 .f64 _ _ _ hry.bits
  have PN := Lib.hid (fun (w : World) => Point_half_no hrx hry (by unfold halfB; simp only [Bool.and_eq_false_iff, decide_eq_false_iff_not]; omega) w)
  have e2 : (x % 2 != 0) = false := by simp only [bne_iff_ne, ne_eq, bne_eq_false_iff_eq]; exact k2
  clear k2
  have e3 : (y % 2 != 0) = true := by simp only [bne_iff_ne, ne_eq, bne_eq_false_iff_eq]; exact k3
  clear k3
  clear hrx hry
  go_enter Try.func3, Try.ntmps3
  go_wp2_with fail
  refine Calls.mono (awake27 w) ?_
  rintro e w1 ⟨rfl, hb⟩
  go_wp2_with fail
  refine Calls.mono (Number_fine B o c a b _ (Below.keeps hb _ _ h0) (Below.keeps hb _ _ h1) hs) ?_
  rintro e w2 ⟨rfl, n2, rfl⟩
  go_wp2_with fail
  refine Calls.mono (Small_any _ [a, b] _ ?_) ?_
  · exact RdU.below (RdU.two h0 h1) (by repeat (first | exact Below.refl _ _ | assumption | (refine Below.drew ?_) | (refine below_drewN' ?_ _) | (refine below_alloc' ?_ _)))
  rintro e w2 ⟨rfl, rfl⟩
  rw [HS.out]
  go_wp2_with fail
  refine Calls.mono (Point_yes_r _ _ a b _ (Val.ofInt (abs_lt _ (by omega))) (Val.ofInt (abs_lt _ (by omega))) HCa.out HCb.out) ?_
  rintro e w2 ⟨v2, rfl, hv2, hb2⟩
  have hb2' : Below w.heap.size w w2 := below_trans (by repeat (first | exact Below.refl _ _ | assumption | (refine Below.drew ?_) | (refine below_drewN' ?_ _) | (refine below_alloc' ?_ _))) hb2
  clear hb2 hb
  have hb := hb2'
  clear hb2'
  have q0 := Below.keeps hb _ _ h0
  have q1 := Below.keeps hb _ _ h1
  go_wp2_with fail
  refine Calls.mono (Same_any _ _ [a, b] [a, b] _ ?_ ?_ (by simp)) ?_
  · exact RdU.below hv2 (by repeat (first | exact Below.refl _ _ | assumption | (refine Below.drew ?_) | (refine below_drewN' ?_ _) | (refine below_alloc' ?_ _)))
  · exact RdU.below (RdU.two h0 h1) (by repeat (first | exact Below.refl _ _ | assumption | (refine Below.drew ?_) | (refine below_drewN' ?_ _) | (refine below_alloc' ?_ _)))
  rintro e w2 ⟨rfl, n3, rfl⟩
  rw [decide_eq_true (rfl : [a, b] = [a, b])]
  clear q0 q1
  go_wp2_with fail
  refine Calls.mono (PN.out _) ?_
  rintro e w2 ⟨rfl, rfl⟩
  go_wp2_with fail
  go_ret
  exact ⟨rfl, (by repeat (first | exact Below.refl _ _ | assumption | (refine Below.drew ?_) | (refine below_drewN' ?_ _) | (refine below_alloc' ?_ _)))⟩

set_option maxHeartbeats 2000000 in
theorem law_fine_b4 (x y : Int) (w : World) (hx : -2147483648 ≤ x ∧ x ≤ 2147483647) (hy : -2147483648 ≤ y ∧ y ≤ 2147483647) (B o c : Nat) (a b : Int) (ha : 0 ≤ a) (hab : 0 ≤ b) (h0 : w.cell? ⟨B, o, none⟩ = some (.int .u64 a)) (h1 : w.cell? ⟨B, o + 1, none⟩ = some (.int .u64 b)) (hs : decide (max a b < 1048576) = true) (k0 : ¬ x < 0) (k1 : ¬ y < 0) (k2 : x % 2 = 0) (k3 : y % 2 = 0) (k4 : 1048576 ≤ x / 2) :
    Calls Try.prog 3 #[.slice (some ⟨B, o, none⟩) 2 c, .int .i32 x, .int .i32 y] w fun e w' => e = .returned (.bool true) ∧ Below w.heap.size w w' := by
  have hab2 : a < 1048576 ∧ b < 1048576 := by simp only [decide_eq_true_iff] at hs; omega
  have hz := order_self a (by omega)
  have hz2 := order_self b (by omega)
  have HS := Lib.hid (show Pl.smallB [a, b] = true by simp [Pl.smallB, hab2])
  have HCa := Lib.hid (show Pl.coordB a = true by simp [Pl.coordB]; omega)
  have HCb := Lib.hid (show Pl.coordB b = true by simp [Pl.coordB]; omega)
  obtain ⟨rx, hrx⟩ := halves_of x hx
  obtain ⟨ry, hry⟩ := halves_of y hy
  have f1 := fun (w : World) => run_float_arith (P := Try.prog) w .quo 31 .f64 _ _ _ hrx.bits
  have f2 := fun (w : World) => run_float_arith (P := Try.prog) w .quo 31 .f64 _ _ _ hry.bits
  have PN := Lib.hid (fun (w : World) => Point_half_no hrx hry (by unfold halfB; simp only [Bool.and_eq_false_iff, decide_eq_false_iff_not]; omega) w)
  have e2 : (x % 2 != 0) = false := by simp only [bne_iff_ne, ne_eq, bne_eq_false_iff_eq]; exact k2
  clear k2
  have e3 : (y % 2 != 0) = false := by simp only [bne_iff_ne, ne_eq, bne_eq_false_iff_eq]; exact k3
  clear k3
  clear hrx hry
  go_enter Try.func3, Try.ntmps3
  go_wp2_with fail
  refine Calls.mono (awake27 w) ?_
  rintro e w1 ⟨rfl, hb⟩
  go_wp2_with fail
  refine Calls.mono (Number_fine B o c a b _ (Below.keeps hb _ _ h0) (Below.keeps hb _ _ h1) hs) ?_
  rintro e w2 ⟨rfl, n2, rfl⟩
  go_wp2_with fail
  refine Calls.mono (Small_any _ [a, b] _ ?_) ?_
  · exact RdU.below (RdU.two h0 h1) (by repeat (first | exact Below.refl _ _ | assumption | (refine Below.drew ?_) | (refine below_drewN' ?_ _) | (refine below_alloc' ?_ _)))
  rintro e w2 ⟨rfl, rfl⟩
  rw [HS.out]
  go_wp2_with fail
  refine Calls.mono (Point_yes_r _ _ a b _ (Val.ofInt (abs_lt _ (by omega))) (Val.ofInt (abs_lt _ (by omega))) HCa.out HCb.out) ?_
  rintro e w2 ⟨v2, rfl, hv2, hb2⟩
  have hb2' : Below w.heap.size w w2 := below_trans (by repeat (first | exact Below.refl _ _ | assumption | (refine Below.drew ?_) | (refine below_drewN' ?_ _) | (refine below_alloc' ?_ _))) hb2
  clear hb2 hb
  have hb := hb2'
  clear hb2'
  have q0 := Below.keeps hb _ _ h0
  have q1 := Below.keeps hb _ _ h1
  go_wp2_with fail
  refine Calls.mono (Same_any _ _ [a, b] [a, b] _ ?_ ?_ (by simp)) ?_
  · exact RdU.below hv2 (by repeat (first | exact Below.refl _ _ | assumption | (refine Below.drew ?_) | (refine below_drewN' ?_ _) | (refine below_alloc' ?_ _)))
  · exact RdU.below (RdU.two h0 h1) (by repeat (first | exact Below.refl _ _ | assumption | (refine Below.drew ?_) | (refine below_drewN' ?_ _) | (refine below_alloc' ?_ _)))
  rintro e w2 ⟨rfl, n3, rfl⟩
  rw [decide_eq_true (rfl : [a, b] = [a, b])]
  clear q0 q1
  go_wp2_with fail
  refine Calls.mono (PN.out _) ?_
  rintro e w2 ⟨rfl, rfl⟩
  go_wp2_with fail
  go_ret
  exact ⟨rfl, (by repeat (first | exact Below.refl _ _ | assumption | (refine Below.drew ?_) | (refine below_drewN' ?_ _) | (refine below_alloc' ?_ _)))⟩

set_option maxHeartbeats 2000000 in
theorem law_fine_b5 (x y : Int) (w : World) (hx : -2147483648 ≤ x ∧ x ≤ 2147483647) (hy : -2147483648 ≤ y ∧ y ≤ 2147483647) (B o c : Nat) (a b : Int) (ha : 0 ≤ a) (hab : 0 ≤ b) (h0 : w.cell? ⟨B, o, none⟩ = some (.int .u64 a)) (h1 : w.cell? ⟨B, o + 1, none⟩ = some (.int .u64 b)) (hs : decide (max a b < 1048576) = true) (k0 : ¬ x < 0) (k1 : ¬ y < 0) (k2 : x % 2 = 0) (k3 : y % 2 = 0) (k4 : ¬ 1048576 ≤ x / 2) (k5 : 1048576 ≤ y / 2) :
    Calls Try.prog 3 #[.slice (some ⟨B, o, none⟩) 2 c, .int .i32 x, .int .i32 y] w fun e w' => e = .returned (.bool true) ∧ Below w.heap.size w w' := by
  have hab2 : a < 1048576 ∧ b < 1048576 := by simp only [decide_eq_true_iff] at hs; omega
  have hz := order_self a (by omega)
  have hz2 := order_self b (by omega)
  have HS := Lib.hid (show Pl.smallB [a, b] = true by simp [Pl.smallB, hab2])
  have HCa := Lib.hid (show Pl.coordB a = true by simp [Pl.coordB]; omega)
  have HCb := Lib.hid (show Pl.coordB b = true by simp [Pl.coordB]; omega)
  obtain ⟨rx, hrx⟩ := halves_of x hx
  obtain ⟨ry, hry⟩ := halves_of y hy
  have f1 := fun (w : World) => run_float_arith (P := Try.prog) w .quo 31 .f64 _ _ _ hrx.bits
  have f2 := fun (w : World) => run_float_arith (P := Try.prog) w .quo 31 .f64 _ _ _ hry.bits
  have PN := Lib.hid (fun (w : World) => Point_half_no hrx hry (by unfold halfB; simp only [Bool.and_eq_false_iff, decide_eq_false_iff_not]; omega) w)
  have e2 : (x % 2 != 0) = false := by simp only [bne_iff_ne, ne_eq, bne_eq_false_iff_eq]; exact k2
  clear k2
  have e3 : (y % 2 != 0) = false := by simp only [bne_iff_ne, ne_eq, bne_eq_false_iff_eq]; exact k3
  clear k3
  clear hrx hry
  go_enter Try.func3, Try.ntmps3
  go_wp2_with fail
  refine Calls.mono (awake27 w) ?_
  rintro e w1 ⟨rfl, hb⟩
  go_wp2_with fail
  refine Calls.mono (Number_fine B o c a b _ (Below.keeps hb _ _ h0) (Below.keeps hb _ _ h1) hs) ?_
  rintro e w2 ⟨rfl, n2, rfl⟩
  go_wp2_with fail
  refine Calls.mono (Small_any _ [a, b] _ ?_) ?_
  · exact RdU.below (RdU.two h0 h1) (by repeat (first | exact Below.refl _ _ | assumption | (refine Below.drew ?_) | (refine below_drewN' ?_ _) | (refine below_alloc' ?_ _)))
  rintro e w2 ⟨rfl, rfl⟩
  rw [HS.out]
  go_wp2_with fail
  refine Calls.mono (Point_yes_r _ _ a b _ (Val.ofInt (abs_lt _ (by omega))) (Val.ofInt (abs_lt _ (by omega))) HCa.out HCb.out) ?_
  rintro e w2 ⟨v2, rfl, hv2, hb2⟩
  have hb2' : Below w.heap.size w w2 := below_trans (by repeat (first | exact Below.refl _ _ | assumption | (refine Below.drew ?_) | (refine below_drewN' ?_ _) | (refine below_alloc' ?_ _))) hb2
  clear hb2 hb
  have hb := hb2'
  clear hb2'
  have q0 := Below.keeps hb _ _ h0
  have q1 := Below.keeps hb _ _ h1
  go_wp2_with fail
  refine Calls.mono (Same_any _ _ [a, b] [a, b] _ ?_ ?_ (by simp)) ?_
  · exact RdU.below hv2 (by repeat (first | exact Below.refl _ _ | assumption | (refine Below.drew ?_) | (refine below_drewN' ?_ _) | (refine below_alloc' ?_ _)))
  · exact RdU.below (RdU.two h0 h1) (by repeat (first | exact Below.refl _ _ | assumption | (refine Below.drew ?_) | (refine below_drewN' ?_ _) | (refine below_alloc' ?_ _)))
  rintro e w2 ⟨rfl, n3, rfl⟩
  rw [decide_eq_true (rfl : [a, b] = [a, b])]
  clear q0 q1
  go_wp2_with fail
  refine Calls.mono (PN.out _) ?_
  rintro e w2 ⟨rfl, rfl⟩
  go_wp2_with fail
  go_ret
  exact ⟨rfl, (by repeat (first | exact Below.refl _ _ | assumption | (refine Below.drew ?_) | (refine below_drewN' ?_ _) | (refine below_alloc' ?_ _)))⟩

set_option maxHeartbeats 2000000 in
theorem law_fine_good (x y : Int) (w : World) (hx : -2147483648 ≤ x ∧ x ≤ 2147483647) (hy : -2147483648 ≤ y ∧ y ≤ 2147483647) (B o c : Nat) (a b : Int) (ha : 0 ≤ a) (hab : 0 ≤ b) (h0 : w.cell? ⟨B, o, none⟩ = some (.int .u64 a)) (h1 : w.cell? ⟨B, o + 1, none⟩ = some (.int .u64 b)) (hs : decide (max a b < 1048576) = true) (k0 : ¬ x < 0) (k1 : ¬ y < 0) (k2 : x % 2 = 0) (k3 : y % 2 = 0) (k4 : ¬ 1048576 ≤ x / 2) (k5 : ¬ 1048576 ≤ y / 2) :
    Calls Try.prog 3 #[.slice (some ⟨B, o, none⟩) 2 c, .int .i32 x, .int .i32 y] w fun e w' => e = .returned (.bool true) ∧ Below w.heap.size w w' := by
  have hab2 : a < 1048576 ∧ b < 1048576 := by simp only [decide_eq_true_iff] at hs; omega
  have hz := order_self a (by omega)
  have hz2 := order_self b (by omega)
  have HS := Lib.hid (show Pl.smallB [a, b] = true by simp [Pl.smallB, hab2])
  have HCa := Lib.hid (show Pl.coordB a = true by simp [Pl.coordB]; omega)
  have HCb := Lib.hid (show Pl.coordB b = true by simp [Pl.coordB]; omega)
  obtain ⟨rx, hrx⟩ := halves_of x hx
  obtain ⟨ry, hry⟩ := halves_of y hy
  have f1 := fun (w : World) => run_float_arith (P := Try.prog) w .quo 31 .f64 _ _ _ hrx.bits
  have f2 := fun (w : World) => run_float_arith (P := Try.prog) w .quo 31 .f64 _ _ _ hry.bits
  have PY := Lib.hid (fun (w : World) => Point_half_yes_r hrx hry (by unfold halfB; simp only [decide_eq_true_iff]; omega) (by unfold halfB; simp only [decide_eq_true_iff]; omega) w)
  have w1 : IntKind.u64.wrap (x / 2) = x / 2 := IntWalk.u64_in _ (by omega)
  have w2 : IntKind.u64.wrap (y / 2) = y / 2 := IntWalk.u64_in _ (by omega)
  have e2 : (x % 2 != 0) = false := by simp [k2]
  have e3 : (y % 2 != 0) = false := by simp [k3]
  clear k2 k3
  clear hrx hry
  go_enter Try.func3, Try.ntmps3
  go_wp2_with fail
  refine Calls.mono (awake27 w) ?_
  rintro e w1 ⟨rfl, hb⟩
  go_wp2_with fail
  refine Calls.mono (Number_fine B o c a b _ (Below.keeps hb _ _ h0) (Below.keeps hb _ _ h1) hs) ?_
  rintro e w2 ⟨rfl, n2, rfl⟩
  go_wp2_with fail
  refine Calls.mono (Small_any _ [a, b] _ ?_) ?_
  · exact RdU.below (RdU.two h0 h1) (by repeat (first | exact Below.refl _ _ | assumption | (refine Below.drew ?_) | (refine below_drewN' ?_ _) | (refine below_alloc' ?_ _)))
  rintro e w2 ⟨rfl, rfl⟩
  rw [HS.out]
  go_wp2_with fail
  refine Calls.mono (Point_yes_r _ _ a b _ (Val.ofInt (abs_lt _ (by omega))) (Val.ofInt (abs_lt _ (by omega))) HCa.out HCb.out) ?_
  rintro e w2 ⟨v2, rfl, hv2, hb2⟩
  have hb2' : Below w.heap.size w w2 := below_trans (by repeat (first | exact Below.refl _ _ | assumption | (refine Below.drew ?_) | (refine below_drewN' ?_ _) | (refine below_alloc' ?_ _))) hb2
  clear hb2 hb
  have hb := hb2'
  clear hb2'
  have q0 := Below.keeps hb _ _ h0
  have q1 := Below.keeps hb _ _ h1
  go_wp2_with fail
  refine Calls.mono (Same_any _ _ [a, b] [a, b] _ ?_ ?_ (by simp)) ?_
  · exact RdU.below hv2 (by repeat (first | exact Below.refl _ _ | assumption | (refine Below.drew ?_) | (refine below_drewN' ?_ _) | (refine below_alloc' ?_ _)))
  · exact RdU.below (RdU.two h0 h1) (by repeat (first | exact Below.refl _ _ | assumption | (refine Below.drew ?_) | (refine below_drewN' ?_ _) | (refine below_alloc' ?_ _)))
  rintro e w2 ⟨rfl, n3, rfl⟩
  rw [decide_eq_true (rfl : [a, b] = [a, b])]
  clear q0 q1
  go_wp2_with fail
  refine Calls.mono (PY.out _) ?_
  rintro e w5 ⟨v5, rfl, hv5, hb5⟩
  have hb5' : Below w.heap.size w w5 := below_trans (by repeat (first | exact Below.refl _ _ | assumption | (refine Below.drew ?_) | (refine below_drewN' ?_ _) | (refine below_alloc' ?_ _))) hb5
  clear hb5 hb
  go_wp2_with fail
  refine Calls.mono (Same_any _ _ [x / 2, y / 2] [x / 2, y / 2] _ ?_ ?_ (by simp)) ?_
  · exact RdU.below hv5 (by repeat (first | exact Below.refl _ _ | assumption | (refine Below.drew ?_) | (refine below_drewN' ?_ _) | (refine below_alloc' ?_ _)))
  · exact RdU.new2 (by simp)
  rintro e w2 ⟨rfl, n5, rfl⟩
  rw [decide_eq_true (rfl : [x / 2, y / 2] = [x / 2, y / 2])]
  go_wp2_with fail
  go_ret
  exact ⟨rfl, (by repeat (first | exact Below.refl _ _ | assumption | (refine Below.drew ?_) | (refine below_drewN' ?_ _) | (refine below_alloc' ?_ _)))⟩



/-- 'PlaneNumbers', whatever comes in. -/
theorem planeNumbers_all (A : Option Addr) (n c : Nat) (xs : List Int) (x y : Int) (w : World) (hv : RdU w (.slice A n c) xs) (hp : ∀ z ∈ xs, 0 ≤ z) (hl : xs.length = n) (hm : n ≤ maxLen)
    (hx : -2147483648 ≤ x ∧ x ≤ 2147483647) (hy : -2147483648 ≤ y ∧ y ≤ 2147483647) :
    Calls Try.prog 3 #[.slice A n c, .int .i32 x, .int .i32 y] w fun e w' => e = .returned (.bool true) ∧ Below w.heap.size w w' := by
  by_cases h40 : n ≤ 40
  · by_cases hn : n = 2
    · obtain ⟨a, b, rfl⟩ : ∃ a b, xs = [a, b] := by
        match xs, hl.trans hn with
        | [a, b], _ => exact ⟨a, b, rfl⟩
      obtain ⟨B, o, c', e, h0, h1⟩ := hv.of_two
      obtain ⟨rfl, rfl, rfl⟩ : A = some ⟨B, o, none⟩ ∧ n = 2 ∧ c = c' := by injection e with e1 e2 e3; exact ⟨e1, e2, e3⟩
      cases hs : decide (max a b < 1048576) with
      | false =>
        by_cases k0 : x < 0
        · exact law_arg_b0 x y w hx hy B o c a b h0 h1 hs k0
        · by_cases k1 : y < 0
          · exact law_arg_b1 x y w hx hy B o c a b h0 h1 hs k0 k1
          · by_cases k2 : x % 2 = 0
            · by_cases k3 : y % 2 = 0
              · by_cases k4 : 1048576 ≤ x / 2
                · exact law_arg_b4 x y w hx hy B o c a b h0 h1 hs k0 k1 k2 k3 k4
                · by_cases k5 : 1048576 ≤ y / 2
                  · exact law_arg_b5 x y w hx hy B o c a b h0 h1 hs k0 k1 k2 k3 k4 k5
                  · exact law_arg_good x y w hx hy B o c a b h0 h1 hs k0 k1 k2 k3 k4 k5
              · exact law_arg_b3 x y w hx hy B o c a b h0 h1 hs k0 k1 k2 k3
            · exact law_arg_b2 x y w hx hy B o c a b h0 h1 hs k0 k1 k2
      | true =>
        by_cases k0 : x < 0
        · exact law_fine_b0 x y w hx hy B o c a b (hp a (by simp)) (hp b (by simp)) h0 h1 hs k0
        · by_cases k1 : y < 0
          · exact law_fine_b1 x y w hx hy B o c a b (hp a (by simp)) (hp b (by simp)) h0 h1 hs k0 k1
          · by_cases k2 : x % 2 = 0
            · by_cases k3 : y % 2 = 0
              · by_cases k4 : 1048576 ≤ x / 2
                · exact law_fine_b4 x y w hx hy B o c a b (hp a (by simp)) (hp b (by simp)) h0 h1 hs k0 k1 k2 k3 k4
                · by_cases k5 : 1048576 ≤ y / 2
                  · exact law_fine_b5 x y w hx hy B o c a b (hp a (by simp)) (hp b (by simp)) h0 h1 hs k0 k1 k2 k3 k4 k5
                  · exact law_fine_good x y w hx hy B o c a b (hp a (by simp)) (hp b (by simp)) h0 h1 hs k0 k1 k2 k3 k4 k5
              · exact law_fine_b3 x y w hx hy B o c a b (hp a (by simp)) (hp b (by simp)) h0 h1 hs k0 k1 k2 k3
            · exact law_fine_b2 x y w hx hy B o c a b (hp a (by simp)) (hp b (by simp)) h0 h1 hs k0 k1 k2
    · by_cases k0 : x < 0
      · exact law_dim_b0 x y w hx hy A n c hn h40 k0
      · by_cases k1 : y < 0
        · exact law_dim_b1 x y w hx hy A n c hn h40 k0 k1
        · by_cases k2 : x % 2 = 0
          · by_cases k3 : y % 2 = 0
            · by_cases k4 : 1048576 ≤ x / 2
              · exact law_dim_b4 x y w hx hy A n c hn h40 k0 k1 k2 k3 k4
              · by_cases k5 : 1048576 ≤ y / 2
                · exact law_dim_b5 x y w hx hy A n c hn h40 k0 k1 k2 k3 k4 k5
                · exact law_dim_good x y w hx hy A n c hn h40 k0 k1 k2 k3 k4 k5
            · exact law_dim_b3 x y w hx hy A n c hn h40 k0 k1 k2 k3
          · exact law_dim_b2 x y w hx hy A n c hn h40 k0 k1 k2
  · clear hv hp hl
    have h41 : (40 : Int) < (n : Int) := by omega
    go_enter Try.func3, Try.ntmps3
    go_wp2_with fail
    refine Calls.mono (awake27 w) ?_
    rintro e w1 ⟨rfl, hb⟩
    go_wp2_with fail
    go_ret
    exact ⟨rfl, hb⟩

end Go.Proofs.Ytlmgabhdeeehmaa
