/-
  The walks of package curve: check.
-/
import Derived.Test.YtlmgabhdeeehmaaCurve2
namespace Go.Proofs.Ytlmgabhdeeehmaa
open Go.RowKit
set_option linter.unusedVariables false

def Cv.checkR (n : Int) (p : List Int) : Int := if n < 1 ∨ 20 < n then 3 else match p with
  | [a, b] => if a < Cv.S n.toNat ∧ b < Cv.S n.toNat then 0 else 3
  | _ => 2
theorem Cv.checkR_out {n : Int} (p : List Int) (h : n < 1 ∨ 20 < n) : Cv.checkR n p = 3 := by unfold Cv.checkR; rw [if_pos h]
theorem Cv.checkR_dim {n : Int} {p : List Int} (h : ¬ (n < 1 ∨ 20 < n)) (hp : p.length ≠ 2) : Cv.checkR n p = 2 := by
  unfold Cv.checkR; rw [if_neg h]
  match p, hp with
  | [], _ => rfl
  | [_], _ => rfl
  | _ :: _ :: _ :: _, _ => rfl
theorem Cv.checkR_two {k : Nat} (a b : Int) (h : 1 ≤ k ∧ k ≤ 20) : Cv.checkR k [a, b] = if a < Cv.S k ∧ b < Cv.S k then 0 else 3 := by
  unfold Cv.checkR; rw [if_neg (by omega)]; simp only [Int.toNat_natCast]
theorem ret_code {x y : Int} (h : y = x) : Ending.returned (.int .i64 x) = Ending.returned (.int .i64 y) := by rw [h]
theorem shr_zero {x : Int} {k : Nat} (hx : 0 ≤ x) (hk : k ≤ 20) : (x / 2 ^ k != 0) = !decide (x < Cv.S k) := by
  have hp := Cv.S_pos k
  show (x / Cv.S k != 0) = _
  by_cases h : x < Cv.S k
  · rw [Int.ediv_eq_zero_of_lt hx h]; simp [h]
  · have : 1 ≤ x / Cv.S k := Int.le_ediv_of_mul_le hp (by omega)
    simp [h]; omega

set_option maxHeartbeats 400000 in
theorem check_low (n : Int) (v : Value) (w : World) (h : n < 1) :
    Calls Try.prog 78 #[.int .i64 n, v] w fun e w' => e = .returned (.int .i64 3) ∧ ∃ m, w' = w.drewN m := by
  go_enter Try.func78, Try.ntmps78
  go_wp2_with fail
  go_ret
  exact ⟨rfl, 0, rfl⟩
set_option maxHeartbeats 400000 in
theorem check_high (n : Int) (v : Value) (w : World) (h : ¬ n < 1) (h' : n > 20) :
    Calls Try.prog 78 #[.int .i64 n, v] w fun e w' => e = .returned (.int .i64 3) ∧ ∃ m, w' = w.drewN m := by
  go_enter Try.func78, Try.ntmps78
  go_wp2_with fail
  go_ret
  exact ⟨rfl, 0, rfl⟩
set_option maxHeartbeats 400000 in
theorem check_dim (n : Int) (A : Option Addr) (l c : Nat) (w : World) (h : ¬ n < 1) (h' : ¬ n > 20) (hl : ((l : Int) != 2) = true) :
    Calls Try.prog 78 #[.int .i64 n, .slice A l c] w fun e w' => e = .returned (.int .i64 2) ∧ ∃ m, w' = w.drewN m := by
  go_enter Try.func78, Try.ntmps78
  go_wp2_with fail
  go_ret
  exact ⟨rfl, 0, rfl⟩
set_option maxHeartbeats 400000 in
theorem check_two (k : Nat) (b o c : Nat) (x y : Int) (w : World) (h : 1 ≤ k ∧ k ≤ 20) (hx : 0 ≤ x) (hy : 0 ≤ y)
    (h0 : w.cell? ⟨b, o, none⟩ = some (.int .u64 x)) (h1 : w.cell? ⟨b, o+1, none⟩ = some (.int .u64 y)) :
    Calls Try.prog 78 #[.int .i64 k, .slice (some ⟨b, o, none⟩) 2 c] w fun e w' => e = .returned (.int .i64 (Cv.checkR k [x, y])) ∧ ∃ m, w' = w.drewN m := by
  have hk1 : ¬ (k : Int) < 1 := by omega
  have hk2 : ¬ (k : Int) > 20 := by omega
  by_cases hxy : x < y
  · have hm : max x y = y := by omega
    have hs := shr_zero hy h.2
    by_cases hlt : y < Cv.S k
    · have H := Lib.hid (show Cv.checkR k [x, y] = 0 by rw [Cv.checkR_two x y h, if_pos ⟨by omega, hlt⟩])
      replace hs : (y / 2 ^ k != 0) = false := by rw [hs]; simp [hlt]
      clear hlt
      go_enter Try.func78, Try.ntmps78
      go_wp2_with fail
      go_quiet (fail)
      go_wp2_with fail
      go_ret
      exact ⟨ret_code H.out, _, rfl⟩
    · have H := Lib.hid (show Cv.checkR k [x, y] = 3 by rw [Cv.checkR_two x y h, if_neg (by omega)])
      replace hs : (y / 2 ^ k != 0) = true := by rw [hs]; simp; omega
      clear hlt
      go_enter Try.func78, Try.ntmps78
      go_wp2_with fail
      go_quiet (fail)
      go_wp2_with fail
      go_ret
      exact ⟨ret_code H.out, _, rfl⟩
  · have hm : max x y = x := by omega
    have hs := shr_zero hx h.2
    by_cases hlt : x < Cv.S k
    · have H := Lib.hid (show Cv.checkR k [x, y] = 0 by rw [Cv.checkR_two x y h, if_pos ⟨hlt, by omega⟩])
      replace hs : (x / 2 ^ k != 0) = false := by rw [hs]; simp [hlt]
      clear hlt
      go_enter Try.func78, Try.ntmps78
      go_wp2_with fail
      go_quiet (fail)
      go_wp2_with fail
      go_ret
      exact ⟨ret_code H.out, _, rfl⟩
    · have H := Lib.hid (show Cv.checkR k [x, y] = 3 by rw [Cv.checkR_two x y h, if_neg (by omega)])
      replace hs : (x / 2 ^ k != 0) = true := by rw [hs]; simp; omega
      clear hlt
      go_enter Try.func78, Try.ntmps78
      go_wp2_with fail
      go_quiet (fail)
      go_wp2_with fail
      go_ret
      exact ⟨ret_code H.out, _, rfl⟩

theorem check_any (n : Int) (v : Value) (p : List Int) (w : World) (hv : RdU w v p) (hp : ∀ z ∈ p, 0 ≤ z) :
    Calls Try.prog 78 #[.int .i64 n, v] w fun e w' => e = .returned (.int .i64 (Cv.checkR n p)) ∧ ∃ m, w' = w.drewN m := by
  by_cases h1 : n < 1
  · rw [Cv.checkR_out p (.inl h1)]; exact check_low n v w h1
  by_cases h2 : n > 20
  · rw [Cv.checkR_out p (.inr h2)]; exact check_high n v w h1 h2
  by_cases hl : p.length = 2
  · obtain ⟨a, b, rfl⟩ : ∃ a b, p = [a, b] := by
      match p, hl with
      | [a, b], _ => exact ⟨a, b, rfl⟩
    obtain ⟨B, o, c, rfl, c0, c1⟩ := hv.of_two
    obtain ⟨k, rfl⟩ : ∃ k : Nat, n = k := ⟨n.toNat, by omega⟩
    exact check_two k B o c a b w (by omega) (hp a (by simp)) (hp b (by simp)) c0 c1
  · obtain ⟨A, c, rfl, _⟩ := hv.slice
    rw [Cv.checkR_dim (by omega) hl]
    exact check_dim n A _ c w h1 h2 (by simp; omega)
