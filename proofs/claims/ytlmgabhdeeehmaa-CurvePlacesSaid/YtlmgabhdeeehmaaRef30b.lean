/-
  The document's answer for the curve: its check; and what the curve's functions answer at a point of the curve.
-/
import Derived.Test.YtlmgabhdeeehmaaRef30
namespace Go.Proofs.Ytlmgabhdeeehmaa
open Go.RowKit
set_option linter.unusedVariables false

set_option maxHeartbeats 400000 in
theorem RefCheck_low (n : Int) (v : Value) (w : World) (h : n < 1) :
    Calls Try.prog 34 #[.int .i64 n, v] w fun e w' => e = .returned (.int .i64 3) ∧ ∃ m, w' = w.drewN m := by
  go_enter Try.func34, Try.ntmps34
  go_wp2_with fail
  go_ret
  exact ⟨rfl, 0, rfl⟩
set_option maxHeartbeats 400000 in
theorem RefCheck_high (n : Int) (v : Value) (w : World) (h : ¬ n < 1) (h' : n > 20) :
    Calls Try.prog 34 #[.int .i64 n, v] w fun e w' => e = .returned (.int .i64 3) ∧ ∃ m, w' = w.drewN m := by
  go_enter Try.func34, Try.ntmps34
  go_wp2_with fail
  go_ret
  exact ⟨rfl, 0, rfl⟩
set_option maxHeartbeats 400000 in
theorem RefCheck_dim (n : Int) (A : Option Addr) (l c : Nat) (w : World) (h : ¬ n < 1) (h' : ¬ n > 20) (hl : ((l : Int) != 2) = true) :
    Calls Try.prog 34 #[.int .i64 n, .slice A l c] w fun e w' => e = .returned (.int .i64 2) ∧ ∃ m, w' = w.drewN m := by
  go_enter Try.func34, Try.ntmps34
  go_wp2_with fail
  go_ret
  exact ⟨rfl, 0, rfl⟩
set_option maxHeartbeats 400000 in
theorem RefCheck_two (k : Nat) (b o c : Nat) (x y : Int) (w : World) (h : 1 ≤ k ∧ k ≤ 20)
    (h0 : w.cell? ⟨b, o, none⟩ = some (.int .u64 x)) (h1 : w.cell? ⟨b, o+1, none⟩ = some (.int .u64 y)) :
    Calls Try.prog 34 #[.int .i64 k, .slice (some ⟨b, o, none⟩) 2 c] w fun e w' => e = .returned (.int .i64 (Cv.checkR k [x, y])) ∧ ∃ m, w' = w.drewN m := by
  have hk1 : ¬ (k : Int) < 1 := by omega
  have hk2 : ¬ (k : Int) > 20 := by omega
  have HP := Lib.hid (fun w => Power_any k w (by omega))
  have HR := Lib.hid (Cv.checkR_two x y h)
  generalize Cv.S k = s at *
  by_cases hx : x < s
  · by_cases hy : y < s
    · have H := Lib.hid (show Cv.checkR k [x, y] = 0 by rw [HR.out, if_pos ⟨hx, hy⟩])
      go_enter Try.func34, Try.ntmps34
      go_wp2_with fail
      go_quiet ((go_at_call 29; exact Calls.quiet_of_same ((HP.out _).mono fun e w' ⟨h1, h2⟩ => ⟨h1, h2⟩)))
      go_wp2_with fail
      go_ret
      exact ⟨ret_code H.out, _, rfl⟩
    · have H := Lib.hid (show Cv.checkR k [x, y] = 3 by rw [HR.out, if_neg (by omega)])
      go_enter Try.func34, Try.ntmps34
      go_wp2_with fail
      go_quiet ((go_at_call 29; exact Calls.quiet_of_same ((HP.out _).mono fun e w' ⟨h1, h2⟩ => ⟨h1, h2⟩)))
      go_wp2_with fail
      go_ret
      exact ⟨ret_code H.out, _, rfl⟩
  · have H := Lib.hid (show Cv.checkR k [x, y] = 3 by rw [HR.out, if_neg (by omega)])
    go_enter Try.func34, Try.ntmps34
    go_wp2_with fail
    go_quiet ((go_at_call 29; exact Calls.quiet_of_same ((HP.out _).mono fun e w' ⟨h1, h2⟩ => ⟨h1, h2⟩)))
    go_wp2_with fail
    go_ret
    exact ⟨ret_code H.out, _, rfl⟩

theorem RefCheck_any (n : Int) (v : Value) (p : List Int) (w : World) (hv : RdU w v p) (hp : ∀ z ∈ p, 0 ≤ z) :
    Calls Try.prog 34 #[.int .i64 n, v] w fun e w' => e = .returned (.int .i64 (Cv.checkR n p)) ∧ ∃ m, w' = w.drewN m := by
  by_cases h1 : n < 1
  · rw [Cv.checkR_out p (.inl h1)]; exact RefCheck_low n v w h1
  by_cases h2 : n > 20
  · rw [Cv.checkR_out p (.inr h2)]; exact RefCheck_high n v w h1 h2
  by_cases hl : p.length = 2
  · obtain ⟨a, b, rfl⟩ : ∃ a b, p = [a, b] := by
      match p, hl with
      | [a, b], _ => exact ⟨a, b, rfl⟩
    obtain ⟨B, o, c, rfl, c0, c1⟩ := hv.of_two
    obtain ⟨k, rfl⟩ : ∃ k : Nat, n = k := ⟨n.toNat, by omega⟩
    exact RefCheck_two k B o c a b w (by omega) c0 c1
  · obtain ⟨A, c, rfl, _⟩ := hv.slice
    rw [Cv.checkR_dim (by omega) hl]
    exact RefCheck_dim n A _ c w h1 h2 (by simp; omega)

/-- at a point of the curve -/
theorem Cv.check_pt (k : Nat) (P : Int) (hk : 1 ≤ k ∧ k ≤ 20) : Cv.checkR k [(Cv.pt k P).1, (Cv.pt k P).2] = 0 := by
  have := Cv.pt_range k P
  rw [Cv.checkR_two _ _ hk, if_pos ⟨this.1.2, this.2.2⟩]
theorem Cv.place_pt (k : Nat) (P : Int) (hk : 1 ≤ k ∧ k ≤ 20) (hP : 0 ≤ P ∧ P < Cv.Q k) : Cv.placeR k [(Cv.pt k P).1, (Cv.pt k P).2] = (P, 0) := by
  unfold Cv.placeR
  rw [if_pos (Cv.check_pt k P hk)]
  simp only [Int.toNat_natCast]
  rw [Cv.pl_pt k P hP]
theorem Cv.point_in (k : Nat) (P : Int) (hk : 1 ≤ k ∧ k ≤ 20) (hP : P < Cv.Q k) : Cv.pointR k P = ([(Cv.pt k P).1, (Cv.pt k P).2], 0) := by
  unfold Cv.pointR
  simp only [Int.toNat_natCast]
  rw [if_neg (by omega)]
theorem Cv.point_out (k : Nat) (P : Int) (hP : Cv.Q k ≤ P) : Cv.pointR k P = ([], 3) := by
  unfold Cv.pointR
  simp only [Int.toNat_natCast]
  rw [if_pos (.inr (.inr hP))]
theorem Cv.pt_nonneg (k : Nat) (P : Int) : ∀ z ∈ [(Cv.pt k P).1, (Cv.pt k P).2], 0 ≤ z := by
  have := Cv.pt_range k P
  intro z hz
  simp only [List.mem_cons, List.not_mem_nil, or_false] at hz
  rcases hz with rfl | rfl
  · exact this.1.1
  · exact this.2.1
theorem Place_pt (k : Nat) (P : Int) (hk : 1 ≤ k ∧ k ≤ 20) (hP : 0 ≤ P ∧ P < Cv.Q k) (v : Value) (w : World) (hv : RdU w v [(Cv.pt k P).1, (Cv.pt k P).2]) :
    Calls Try.prog 31 #[.int .i64 k, v] w fun e w' => e = .returned (.tuple #[.int .u64 P, .int .i64 0]) ∧ Below w.heap.size w w' := by
  have := Place_any k v _ w hv (Cv.pt_nonneg k P)
  rw [Cv.place_pt k P hk hP] at this
  exact this
theorem Next_pt (k : Nat) (P : Int) (hk : 1 ≤ k ∧ k ≤ 20) (hP : 0 ≤ P ∧ P + 1 < Cv.Q k) (v : Value) (w : World) (hv : RdU w v [(Cv.pt k P).1, (Cv.pt k P).2]) :
    Calls Try.prog 32 #[.int .i64 k, v] w (RetNx w ([(Cv.pt k (P + 1)).1, (Cv.pt k (P + 1)).2], true, 0)) := by
  have := Next_any k v _ w hv (Cv.pt_nonneg k P)
  unfold Cv.nextR at this
  rw [if_pos (Cv.check_pt k P hk), Cv.place_pt k P hk (by omega), Cv.point_in k _ hk hP.2] at this
  exact this
theorem Next_end (k : Nat) (P : Int) (hk : 1 ≤ k ∧ k ≤ 20) (hP : 0 ≤ P ∧ P + 1 = Cv.Q k) (v : Value) (w : World) (hv : RdU w v [(Cv.pt k P).1, (Cv.pt k P).2]) :
    Calls Try.prog 32 #[.int .i64 k, v] w (RetNx w ([], false, 0)) := by
  have := Next_any k v _ w hv (Cv.pt_nonneg k P)
  unfold Cv.nextR at this
  rw [if_pos (Cv.check_pt k P hk), Cv.place_pt k P hk (by omega), Cv.point_out k _ (by show Cv.Q k ≤ P + 1; omega)] at this
  exact this
theorem Point_pt (k : Nat) (P : Int) (hk : 1 ≤ k ∧ k ≤ 20) (hP : 0 ≤ P ∧ P < Cv.Q k) (w : World) :
    Calls Try.prog 30 #[.int .i64 k, .int .u64 P] w (RetPt w ([(Cv.pt k P).1, (Cv.pt k P).2], 0)) := Point_fine k P w hk hP
end Go.Proofs.Ytlmgabhdeeehmaa
