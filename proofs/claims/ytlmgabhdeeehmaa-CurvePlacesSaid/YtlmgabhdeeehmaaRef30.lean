/-
  The document's answer for the curve: its walks.
-/
import Derived.Test.YtlmgabhdeeehmaaCurve6
namespace Go.Proofs.Ytlmgabhdeeehmaa
open Go.RowKit
set_option linter.unusedVariables false

theorem S_wrap (k : Nat) (h : k < 63) : IntKind.u64.wrap (2 * Cv.S k) = Cv.S (k + 1) := by
  have h1 := Cv.S_succ k
  have h2 : Cv.S k ≤ Cv.S 62 := by
    show ((2 : Nat) : Int) ^ k ≤ ((2 : Nat) : Int) ^ 62
    rw [← Int.natCast_pow, ← Int.natCast_pow]
    exact Int.ofNat_le.2 (Nat.pow_le_pow_right (by omega) (by omega))
  have h3 : Cv.S 62 = 4611686018427387904 := by decide
  have h4 := Cv.S_pos k
  rw [h1]; exact wrap_u64 (by omega) (by omega)
set_option maxHeartbeats 400000 in
theorem Power_any (n : Nat) (w : World) (hn : n ≤ 63) :
    Calls Try.prog 29 #[.int .i64 n] w fun e w' => e = .returned (.int .u64 (Cv.S n)) ∧ w' = w := by
  have HN := Lib.hid hn
  clear hn
  go_enter Try.func29, Try.ntmps29
  go_wp2_with fail
  go_loop [4, 3] (fun i x => ∃ k : Nat, k ≤ n ∧ i = .int .i64 k ∧ x = .int .u64 (Cv.S k)) (fun i _ => n - (intOf i).toNat)
  case atStart => exact ⟨0, Nat.zero_le _, rfl, rfl⟩
  case round =>
    obtain ⟨k, hk, rfl, rfl⟩ := hrel
    by_cases hlt : k < n
    · have h3 : (k : Int) < n := by omega
      have HW := Lib.hid (show wrap64 ((k : Int) + 1) = ((k + 1 : Nat) : Int) by have := HN.out; unfold wrap64; omega)
      have HS := Lib.hid (S_wrap k (by have := HN.out; omega))
      go_wp2_with fail
      go_round
      case rel => exact ⟨k + 1, by omega, by rw [HW.out], by rw [HS.out]⟩
      case measure => rw [intOf_of HW.out, intOf_of rfl]; omega
    · obtain rfl : k = n := by omega
      go_wp2_with fail
      go_ret
      exact ⟨rfl, rfl⟩

set_option maxHeartbeats 400000 in
theorem RefPoint_zero (p : Int) (w : World) :
    Calls Try.prog 33 #[.int .i64 0, .int .u64 p] w fun e w' => e = .returned (.tuple #[.int .u64 0, .int .u64 0]) ∧ w' = w := by
  go_enter Try.func33, Try.ntmps33
  go_wp2_with fail
  go_ret2
  exact ⟨rfl, rfl⟩

set_option maxHeartbeats 400000 in
theorem RefPoint_succ (k : Nat) (p s Q' X Y : Int) (w : World) (r : Int × Int) (hk : k < 20) (hs0 : 1 ≤ s) (hs1 : s ≤ 1048576) (hQ : IntKind.u64.wrap (s * s) = Q') (hQ0 : 0 < Q') (hp : 0 ≤ p ∧ p < 4 * Q') (hX : 0 ≤ X ∧ X < s) (hY : 0 ≤ Y ∧ Y < s)
    (HP : Hid (∀ w, Calls Try.prog 29 #[.int .i64 k] w fun e w' => e = .returned (.int .u64 s) ∧ w' = w))
    (HR : Hid (∀ w, Calls Try.prog 33 #[.int .i64 k, .int .u64 (p % Q')] w fun e w' => e = .returned (.tuple #[.int .u64 X, .int .u64 Y]) ∧ w' = w))
    (HU : Hid (r = Cv.up s (p / Q') (X, Y))) :
    Calls Try.prog 33 #[.int .i64 (k + 1), .int .u64 p] w fun e w' => e = .returned (.tuple #[.int .u64 r.1, .int .u64 r.2]) ∧ w' = w := by
  have en : wrap64 ((k : Int) + 1 - 1) = k := by unfold wrap64; omega
  have en' : wrap64 (k : Int) = k := by unfold wrap64; omega
  have e0 : ((k : Int) + 1 == 0) = false := by simp; omega
  have eq1 : (Q' == 0) = false := by simp; omega
  have hq0 : 0 ≤ p / Q' := Int.ediv_nonneg hp.1 (by omega)
  have hq3 : p / Q' < 4 := Int.ediv_lt_of_lt_mul hQ0 (by omega)
  have hmod : (Int.tmod p Q') = p % Q' := Int.tmod_eq_emod_of_nonneg hp.1
  have hdiv : (Int.tdiv p Q') = p / Q' := Int.tdiv_eq_ediv_of_nonneg hp.1
  clear hk hp
  rcases (show p / Q' = 0 ∨ p / Q' = 1 ∨ p / Q' = 2 ∨ p / Q' = 3 by omega) with hq | hq | hq | hq
  all_goals clear hq0 hq3
  · have hu : Cv.up s 0 (X, Y) = (Y, X) := by simp [Cv.up]
    rw [hq, hu] at HU
    
    clear hX hY hs0 hs1
    go_enter Try.func33, Try.ntmps33
    go_wp2_with fail
    refine (HP.out _).mono ?_
    rintro e w' ⟨rfl, rfl⟩
    go_wp2_with fail
    refine (HR.out _).mono ?_
    rintro e w' ⟨rfl, rfl⟩
    go_wp2_with fail
    go_ret2
    exact ⟨by rw [HU.out]; rfl, rfl⟩
  · have hu : Cv.up s 1 (X, Y) = (X, Y + s) := by simp [Cv.up]
    rw [hq, hu] at HU
    have f1 := wrap_u64 (a := Y + s) (by omega) (by omega)
    clear hX hY hs0 hs1
    go_enter Try.func33, Try.ntmps33
    go_wp2_with fail
    refine (HP.out _).mono ?_
    rintro e w' ⟨rfl, rfl⟩
    go_wp2_with fail
    refine (HR.out _).mono ?_
    rintro e w' ⟨rfl, rfl⟩
    go_wp2_with fail
    go_ret2
    exact ⟨by rw [HU.out]; rfl, rfl⟩
  · have hu : Cv.up s 2 (X, Y) = (X + s, Y + s) := by simp [Cv.up]
    rw [hq, hu] at HU
    have f1 := wrap_u64 (a := Y + s) (by omega) (by omega)
    have f2 := wrap_u64 (a := X + s) (by omega) (by omega)
    clear hX hY hs0 hs1
    go_enter Try.func33, Try.ntmps33
    go_wp2_with fail
    refine (HP.out _).mono ?_
    rintro e w' ⟨rfl, rfl⟩
    go_wp2_with fail
    refine (HR.out _).mono ?_
    rintro e w' ⟨rfl, rfl⟩
    go_wp2_with fail
    go_ret2
    exact ⟨by rw [HU.out]; rfl, rfl⟩
  · have hu : Cv.up s 3 (X, Y) = (2 * s - 1 - Y, s - 1 - X) := by simp [Cv.up]
    rw [hq, hu] at HU
    have f1 := wrap_u64 (a := 2 * s) (by omega) (by omega)
    have f2 := wrap_u64 (a := 2 * s - 1) (by omega) (by omega)
    have f3 := wrap_u64 (a := 2 * s - 1 - Y) (by omega) (by omega)
    have f4 := wrap_u64 (a := s - 1) (by omega) (by omega)
    have f5 := wrap_u64 (a := s - 1 - X) (by omega) (by omega)
    clear hX hY hs0 hs1
    go_enter Try.func33, Try.ntmps33
    go_wp2_with fail
    refine (HP.out _).mono ?_
    rintro e w' ⟨rfl, rfl⟩
    go_wp2_with fail
    refine (HR.out _).mono ?_
    rintro e w' ⟨rfl, rfl⟩
    go_wp2_with fail
    go_ret2
    exact ⟨by rw [HU.out]; rfl, rfl⟩

theorem RefPoint_any (n : Nat) (p : Int) (w : World) (hn : n ≤ 20) (hp : 0 ≤ p ∧ p < Cv.Q n) :
    Calls Try.prog 33 #[.int .i64 n, .int .u64 p] w fun e w' => e = .returned (.tuple #[.int .u64 (Cv.pt n p).1, .int .u64 (Cv.pt n p).2]) ∧ w' = w := by
  induction n generalizing p w with
  | zero => exact RefPoint_zero p w
  | succ k ih =>
    have hS := Cv.S_le (show k ≤ 20 by omega)
    have hp' := Cv.S_pos k
    have hQp := Cv.Q_pos k
    have hQl := Cv.Q_le (show k ≤ 20 by omega)
    have hr := Cv.pt_range k (p % Cv.Q k)
    rw [Cv.Q_succ] at hp
    exact RefPoint_succ k p (Cv.S k) (Cv.Q k) (Cv.pt k (p % Cv.Q k)).1 (Cv.pt k (p % Cv.Q k)).2 w (Cv.pt (k + 1) p) (by omega) (by omega) hS (by rw [Cv.SS]; exact wrap_u64 (by omega) (by omega)) hQp hp hr.1 hr.2
      (Lib.hid fun w => Power_any k w (by omega)) (Lib.hid fun w => ih _ w (by omega) ⟨Int.emod_nonneg _ (by omega), Int.emod_lt_of_pos _ hQp⟩) (Lib.hid rfl)

set_option maxHeartbeats 400000 in
theorem RefPlace_zero (x y : Int) (w : World) :
    Calls Try.prog 35 #[.int .i64 0, .int .u64 x, .int .u64 y] w fun e w' => e = .returned (.int .u64 0) ∧ w' = w := by
  go_enter Try.func35, Try.ntmps35
  go_wp2_with fail
  go_ret
  exact ⟨rfl, rfl⟩

set_option maxHeartbeats 400000 in
theorem RefPlace_0 (k : Nat) (x y s Q' r : Int) (w : World) (hk : k < 20) (hs0 : 1 ≤ s) (hs1 : s ≤ 1048576) (hQ : s * s = Q') (hQ0 : 1 ≤ Q') (hQ1 : Q' ≤ 1099511627776)
    (hx : 0 ≤ x ∧ x < 2 * s) (hy : 0 ≤ y ∧ y < 2 * s) (hr : 0 ≤ r ∧ r < Q') (h1 : x < s) (h2 : y < s)
    (HP : Hid (∀ w, Calls Try.prog 29 #[.int .i64 k] w fun e w' => e = .returned (.int .u64 s) ∧ w' = w))
    (HR : Hid (∀ w, Calls Try.prog 35 #[.int .i64 k, .int .u64 (y), .int .u64 (x)] w fun e w' => e = .returned (.int .u64 r) ∧ w' = w)) :
    Calls Try.prog 35 #[.int .i64 (k + 1), .int .u64 x, .int .u64 y] w fun e w' => e = .returned (.int .u64 (r)) ∧ w' = w := by
  have en : wrap64 ((k : Int) + 1 - 1) = k := by unfold wrap64; omega
  have en' : wrap64 (k : Int) = k := by unfold wrap64; omega
  have e0 : ((k : Int) + 1 == 0) = false := by simp; omega
  clear hx hy hr hs0 hs1 hQ hQ0 hQ1 hk
  go_enter Try.func35, Try.ntmps35
  go_wp2_with fail
  refine (HP.out _).mono ?_
  rintro e w' ⟨rfl, rfl⟩
  go_wp2_with fail
  refine (HR.out _).mono ?_
  rintro e w' ⟨rfl, rfl⟩
  go_wp2_with fail
  go_ret
  exact ⟨rfl, rfl⟩

set_option maxHeartbeats 400000 in
theorem RefPlace_1 (k : Nat) (x y s Q' r : Int) (w : World) (hk : k < 20) (hs0 : 1 ≤ s) (hs1 : s ≤ 1048576) (hQ : s * s = Q') (hQ0 : 1 ≤ Q') (hQ1 : Q' ≤ 1099511627776)
    (hx : 0 ≤ x ∧ x < 2 * s) (hy : 0 ≤ y ∧ y < 2 * s) (hr : 0 ≤ r ∧ r < Q') (h1 : x < s) (h2 : ¬ y < s)
    (HP : Hid (∀ w, Calls Try.prog 29 #[.int .i64 k] w fun e w' => e = .returned (.int .u64 s) ∧ w' = w))
    (HR : Hid (∀ w, Calls Try.prog 35 #[.int .i64 k, .int .u64 (x), .int .u64 (y - s)] w fun e w' => e = .returned (.int .u64 r) ∧ w' = w)) :
    Calls Try.prog 35 #[.int .i64 (k + 1), .int .u64 x, .int .u64 y] w fun e w' => e = .returned (.int .u64 (Q' + r)) ∧ w' = w := by
  have en : wrap64 ((k : Int) + 1 - 1) = k := by unfold wrap64; omega
  have en' : wrap64 (k : Int) = k := by unfold wrap64; omega
  have e0 : ((k : Int) + 1 == 0) = false := by simp; omega
  have f1 := wrap_u64 (a := y - s) (by omega) (by omega)
  have e3 : IntKind.u64.wrap (s * s) = Q' := by rw [hQ]; exact wrap_u64 (by omega) (by omega)
  have e4 := wrap_u64 (a := Q' + r) (by omega) (by omega)
  clear hx hy hr hs0 hs1 hQ hQ0 hQ1 hk
  go_enter Try.func35, Try.ntmps35
  go_wp2_with fail
  refine (HP.out _).mono ?_
  rintro e w' ⟨rfl, rfl⟩
  go_wp2_with fail
  refine (HR.out _).mono ?_
  rintro e w' ⟨rfl, rfl⟩
  go_wp2_with fail
  go_ret
  exact ⟨rfl, rfl⟩

set_option maxHeartbeats 400000 in
theorem RefPlace_2 (k : Nat) (x y s Q' r : Int) (w : World) (hk : k < 20) (hs0 : 1 ≤ s) (hs1 : s ≤ 1048576) (hQ : s * s = Q') (hQ0 : 1 ≤ Q') (hQ1 : Q' ≤ 1099511627776)
    (hx : 0 ≤ x ∧ x < 2 * s) (hy : 0 ≤ y ∧ y < 2 * s) (hr : 0 ≤ r ∧ r < Q') (h1 : ¬ x < s) (h3 : s ≤ y)
    (HP : Hid (∀ w, Calls Try.prog 29 #[.int .i64 k] w fun e w' => e = .returned (.int .u64 s) ∧ w' = w))
    (HR : Hid (∀ w, Calls Try.prog 35 #[.int .i64 k, .int .u64 (x - s), .int .u64 (y - s)] w fun e w' => e = .returned (.int .u64 r) ∧ w' = w)) :
    Calls Try.prog 35 #[.int .i64 (k + 1), .int .u64 x, .int .u64 y] w fun e w' => e = .returned (.int .u64 (2 * Q' + r)) ∧ w' = w := by
  have en : wrap64 ((k : Int) + 1 - 1) = k := by unfold wrap64; omega
  have en' : wrap64 (k : Int) = k := by unfold wrap64; omega
  have e0 : ((k : Int) + 1 == 0) = false := by simp; omega
  have f1 := wrap_u64 (a := y - s) (by omega) (by omega)
  have f2 := wrap_u64 (a := x - s) (by omega) (by omega)
  have e2 := wrap_u64 (a := 2 * s) (by omega) (by omega)
  have e3 : IntKind.u64.wrap (2 * s * s) = 2 * Q' := by rw [Int.mul_assoc, hQ]; exact wrap_u64 (by omega) (by omega)
  have e4 := wrap_u64 (a := 2 * Q' + r) (by omega) (by omega)
  clear hx hy hr hs0 hs1 hQ hQ0 hQ1 hk
  go_enter Try.func35, Try.ntmps35
  go_wp2_with fail
  refine (HP.out _).mono ?_
  rintro e w' ⟨rfl, rfl⟩
  go_wp2_with fail
  refine (HR.out _).mono ?_
  rintro e w' ⟨rfl, rfl⟩
  go_wp2_with fail
  go_ret
  exact ⟨rfl, rfl⟩

set_option maxHeartbeats 400000 in
theorem RefPlace_3 (k : Nat) (x y s Q' r : Int) (w : World) (hk : k < 20) (hs0 : 1 ≤ s) (hs1 : s ≤ 1048576) (hQ : s * s = Q') (hQ0 : 1 ≤ Q') (hQ1 : Q' ≤ 1099511627776)
    (hx : 0 ≤ x ∧ x < 2 * s) (hy : 0 ≤ y ∧ y < 2 * s) (hr : 0 ≤ r ∧ r < Q') (h1 : ¬ x < s) (h3 : ¬ s ≤ y)
    (HP : Hid (∀ w, Calls Try.prog 29 #[.int .i64 k] w fun e w' => e = .returned (.int .u64 s) ∧ w' = w))
    (HR : Hid (∀ w, Calls Try.prog 35 #[.int .i64 k, .int .u64 (s - 1 - y), .int .u64 (2 * s - 1 - x)] w fun e w' => e = .returned (.int .u64 r) ∧ w' = w)) :
    Calls Try.prog 35 #[.int .i64 (k + 1), .int .u64 x, .int .u64 y] w fun e w' => e = .returned (.int .u64 (3 * Q' + r)) ∧ w' = w := by
  have en : wrap64 ((k : Int) + 1 - 1) = k := by unfold wrap64; omega
  have en' : wrap64 (k : Int) = k := by unfold wrap64; omega
  have e0 : ((k : Int) + 1 == 0) = false := by simp; omega
  have f1 := wrap_u64 (a := 2 * s) (by omega) (by omega)
  have f2 := wrap_u64 (a := 2 * s - 1) (by omega) (by omega)
  have f3 := wrap_u64 (a := 2 * s - 1 - x) (by omega) (by omega)
  have f4 := wrap_u64 (a := s - 1) (by omega) (by omega)
  have f5 := wrap_u64 (a := s - 1 - y) (by omega) (by omega)
  have e2 := wrap_u64 (a := 3 * s) (by omega) (by omega)
  have e3 : IntKind.u64.wrap (3 * s * s) = 3 * Q' := by rw [Int.mul_assoc, hQ]; exact wrap_u64 (by omega) (by omega)
  have e4 := wrap_u64 (a := 3 * Q' + r) (by omega) (by omega)
  clear hx hy hr hs0 hs1 hQ hQ0 hQ1 hk
  go_enter Try.func35, Try.ntmps35
  go_wp2_with fail
  refine (HP.out _).mono ?_
  rintro e w' ⟨rfl, rfl⟩
  go_wp2_with fail
  refine (HR.out _).mono ?_
  rintro e w' ⟨rfl, rfl⟩
  go_wp2_with fail
  go_ret
  exact ⟨rfl, rfl⟩


theorem RefPlace_any (n : Nat) (x y : Int) (w : World) (hn : n ≤ 20) (hx : 0 ≤ x ∧ x < Cv.S n) (hy : 0 ≤ y ∧ y < Cv.S n) :
    Calls Try.prog 35 #[.int .i64 n, .int .u64 x, .int .u64 y] w fun e w' => e = .returned (.int .u64 (Cv.pl n x y)) ∧ w' = w := by
  induction n generalizing x y w with
  | zero => exact RefPlace_zero x y w
  | succ k ih =>
    have hS := Cv.S_le (show k ≤ 20 by omega)
    have hp' := Cv.S_pos k
    have hQp := Cv.Q_pos k
    have hQl := Cv.Q_le (show k ≤ 20 by omega)
    rw [Cv.S_succ] at hx hy
    have hd := Cv.down_range hx hy
    have hr := Cv.pl_range k _ _ hd.1 hd.2
    have HP := Lib.hid (fun w => Power_any k w (by omega))
    have HR := Lib.hid (fun w => ih _ _ w (by omega) hd.1 hd.2)
    unfold Cv.pl
    by_cases h1 : x < Cv.S k
    · by_cases h2 : y < Cv.S k
      · have e : Cv.down (Cv.S k) x y = (y, x) := by simp only [Cv.down, if_pos h1, if_pos h2]
        rw [e] at hr HR ⊢
        rw [show Cv.quar (Cv.S k) x y = 0 by simp only [Cv.quar, if_pos h1, if_pos h2], Int.zero_mul, Int.zero_add]
        exact RefPlace_0 k x y (Cv.S k) (Cv.Q k) _ w (by omega) (by omega) hS (Cv.SS k) (by omega) hQl hx hy hr h1 h2 HP HR
      · have e : Cv.down (Cv.S k) x y = (x, y - Cv.S k) := by simp only [Cv.down, if_pos h1, if_neg h2]
        rw [e] at hr HR ⊢
        rw [show Cv.quar (Cv.S k) x y = 1 by simp only [Cv.quar, if_pos h1, if_neg h2], Int.one_mul]
        exact RefPlace_1 k x y (Cv.S k) (Cv.Q k) _ w (by omega) (by omega) hS (Cv.SS k) (by omega) hQl hx hy hr h1 h2 HP HR
    · by_cases h3 : Cv.S k ≤ y
      · have e : Cv.down (Cv.S k) x y = (x - Cv.S k, y - Cv.S k) := by simp only [Cv.down, if_neg h1, if_pos h3]
        rw [e] at hr HR ⊢
        rw [show Cv.quar (Cv.S k) x y = 2 by simp only [Cv.quar, if_neg h1, if_pos h3]]
        exact RefPlace_2 k x y (Cv.S k) (Cv.Q k) _ w (by omega) (by omega) hS (Cv.SS k) (by omega) hQl hx hy hr h1 h3 HP HR
      · have e : Cv.down (Cv.S k) x y = (Cv.S k - 1 - y, 2 * Cv.S k - 1 - x) := by simp only [Cv.down, if_neg h1, if_neg h3]
        rw [e] at hr HR ⊢
        rw [show Cv.quar (Cv.S k) x y = 3 by simp only [Cv.quar, if_neg h1, if_neg h3]]
        exact RefPlace_3 k x y (Cv.S k) (Cv.Q k) _ w (by omega) (by omega) hS (Cv.SS k) (by omega) hQl hx hy hr h1 h3 HP HR
end Go.Proofs.Ytlmgabhdeeehmaa
