/-
  CurvePlaces: joined.
-/
import Derived.Test.YtlmgabhdeeehmaaLawCurve3
namespace Go.Proofs.Ytlmgabhdeeehmaa
open Go.RowKit
set_option linter.unusedVariables false

theorem places_code (k : Nat) (q cd : Int) (A : Option Addr) (l c : Nat) (p : List Int) (w : World) (hk : 1 ≤ k ∧ k ≤ 20) (hv : RdU w (.slice A l c) p) (hp : ∀ z ∈ p, 0 ≤ z)
    (hl : ¬ (l : Int) > 40) (hq : 0 ≤ q) (hc : Cv.checkR k p = cd) (h0 : cd ≠ 0) :
    Calls Try.prog 7 #[.int .i64 k, .slice A l c, .int .u64 q] w fun e w' => e = .returned (.bool true) ∧ Below w.heap.size w w' := by
  have HPL := fun w hv => Place_any k (.slice A l c) p w hv hp
  rw [show Cv.placeR k p = (0, cd) by unfold Cv.placeR; rw [if_neg (by omega), hc]] at HPL
  have HNX := fun w hv => Next_any k (.slice A l c) p w hv hp
  rw [show Cv.nextR k p = ([], false, cd) by unfold Cv.nextR; rw [if_neg (by omega), hc]] at HNX
  have HCK := fun w hv => RefCheck_any k (.slice A l c) p w hv hp
  rw [hc] at HCK
  have hcd : (cd != 0) = true := by simpa using h0
  by_cases h : q < Cv.Q k
  · have HPT := fun w => Point_pt k q hk ⟨hq, h⟩ w
    exact places_20 k q (Cv.Q k) (Cv.pt k q).1 (Cv.pt k q).2 A l c p cd w (by omega) (by omega) (Lib.hid hv) hl hcd h (Lib.hid HPL) (Lib.hid HPT) (Lib.hid HNX) (Lib.hid fun w => Power_two k w hk.2) (Lib.hid HCK)
      (Lib.hid fun w => RefPoint_any k q w hk.2 ⟨hq, h⟩) (Lib.hid fun v w hv => Place_pt k q hk ⟨hq, h⟩ v w hv)
  · have HPT := fun w => Point_any k q w hq
    rw [Cv.point_out k q (by omega)] at HPT
    exact places_10 k q (Cv.Q k) 0 0 A l c p cd w (by omega) (by omega) (Lib.hid hv) hl hcd h (Lib.hid HPL) (Lib.hid HPT) (Lib.hid HNX) (Lib.hid fun w => Power_two k w hk.2) (Lib.hid HCK)

theorem places_fine (k : Nat) (q a b : Int) (A : Option Addr) (l c : Nat) (w : World) (hk : 1 ≤ k ∧ k ≤ 20) (hv : RdU w (.slice A l c) [a, b]) (ha : 0 ≤ a ∧ a < Cv.S k) (hb : 0 ≤ b ∧ b < Cv.S k) (hq : 0 ≤ q) :
    Calls Try.prog 7 #[.int .i64 k, .slice A l c, .int .u64 q] w fun e w' => e = .returned (.bool true) ∧ Below w.heap.size w w' := by
  obtain ⟨B, o, c', hs, c0, c1⟩ := hv.of_two
  simp only [Value.slice.injEq] at hs
  obtain ⟨rfl, rfl, rfl⟩ := hs
  have HPL := fun w hv => Place_fine k (.slice (some ⟨B, o, none⟩) 2 c) a b w hv ha hb hk
  have hF := Cv.pl_range k a b ha hb
  have he := Cv.pt_pl k a b ha hb
  have hQl := Cv.Q_le hk.2
  have HRL := fun w => RefPlace_any k a b w hk.2 ha hb
  have HCK := fun w hv => RefCheck_any k (.slice (some ⟨B, o, none⟩) 2 c) [a, b] w hv (by simp; omega)
  rw [Cv.checkR_two a b hk, if_pos ⟨ha.2, hb.2⟩] at HCK
  have HWS := fun w => Point_pt k (Cv.pl k a b) hk hF w
  rw [he] at HWS
  have HN1 := fun h v w => Next_pt k (Cv.pl k a b) hk h v w
  rw [he] at HN1
  have HN2 := fun h v w => Next_end k (Cv.pl k a b) hk h v w
  rw [he] at HN2
  generalize Cv.pl k a b = G at *
  have eF := wrap_u64 (a := G + 1) (by omega) (by omega)
  have HP := fun w => Power_two k w hk.2
  by_cases h1 : G + 1 = Cv.Q k
  · rw [← h1] at HP
    by_cases h : q < Cv.Q k
    · exact places_21 k q 0 (Cv.pt k q).1 (Cv.pt k q).2 B o c a b G 0 0 w (by omega) (by omega) (Lib.hid hv) (Lib.hid ⟨c0, c1⟩) eF (by omega) (Lib.hid HPL) (Lib.hid fun w => Point_pt k q hk ⟨hq, h⟩ w) (Lib.hid fun w hv => HN2 ⟨hF.1, h1⟩ _ w hv) (Lib.hid HP) (Lib.hid HCK)
        (Lib.hid fun w => RefPoint_any k q w hk.2 ⟨hq, h⟩) (Lib.hid fun v w hv => Place_pt k q hk ⟨hq, h⟩ v w hv) (Lib.hid HWS) (Lib.hid HRL)
    · have HPT := fun w => Point_any k q w hq
      rw [Cv.point_out k q (by omega)] at HPT
      exact places_11 k q 0 0 0 B o c a b G 0 0 w (by omega) (by omega) (Lib.hid hv) (Lib.hid ⟨c0, c1⟩) eF (by omega) (Lib.hid HPL) (Lib.hid HPT) (Lib.hid fun w hv => HN2 ⟨hF.1, h1⟩ _ w hv) (Lib.hid HP) (Lib.hid HCK) (Lib.hid HWS) (Lib.hid HRL)
  · have hne : (G + 1 == Cv.Q k) = false := by simpa using h1
    have hG1 : 0 ≤ G ∧ G + 1 < Cv.Q k := by omega
    have HRN := fun w => RefPoint_any k (G + 1) w hk.2 (by omega)
    by_cases h : q < Cv.Q k
    · exact places_22 k q (Cv.Q k) (Cv.pt k q).1 (Cv.pt k q).2 B o c a b G _ _ w (by omega) (by omega) (Lib.hid hv) (Lib.hid ⟨c0, c1⟩) eF hne h (Lib.hid HPL) (Lib.hid fun w => Point_pt k q hk ⟨hq, h⟩ w) (Lib.hid fun w hv => HN1 hG1 _ w hv) (Lib.hid HP) (Lib.hid HCK)
        (Lib.hid fun w => RefPoint_any k q w hk.2 ⟨hq, h⟩) (Lib.hid fun v w hv => Place_pt k q hk ⟨hq, h⟩ v w hv) (Lib.hid HWS) (Lib.hid HRL) (Lib.hid HRN)
    · have HPT := fun w => Point_any k q w hq
      rw [Cv.point_out k q (by omega)] at HPT
      exact places_12 k q (Cv.Q k) 0 0 B o c a b G _ _ w (by omega) (by omega) (Lib.hid hv) (Lib.hid ⟨c0, c1⟩) eF hne h (Lib.hid HPL) (Lib.hid HPT) (Lib.hid fun w hv => HN1 hG1 _ w hv) (Lib.hid HP) (Lib.hid HCK) (Lib.hid HWS) (Lib.hid HRL) (Lib.hid HRN)

theorem curvePlaces_all (n q : Int) (A : Option Addr) (l c : Nat) (p : List Int) (w : World) (hv : RdU w (.slice A l c) p) (hp : ∀ z ∈ p, 0 ≤ z) (hq : 0 ≤ q) :
    Calls Try.prog 7 #[.int .i64 n, .slice A l c, .int .u64 q] w fun e w' => e = .returned (.bool true) ∧ Below w.heap.size w w' := by
  by_cases hl : (l : Int) > 40
  · exact places_long n q A l c w hl
  by_cases ho : n < 1 ∨ 20 < n
  · exact places_out n q A l c p w hl ho hv hp hq
  obtain ⟨k, rfl⟩ : ∃ k : Nat, n = k := ⟨n.toNat, by omega⟩
  by_cases hc : Cv.checkR k p = 0
  · obtain ⟨k', a, b, hk', h1, h2, rfl, ha, hb⟩ := Cv.checkR_ok hc
    obtain rfl : k = k' := by omega
    exact places_fine k q a b A l c w ⟨h1, h2⟩ hv ⟨hp a (by simp), ha⟩ ⟨hp b (by simp), hb⟩ hq
  · exact places_code k q _ A l c p w (by omega) hv hp hl hq rfl hc
end Go.Proofs.Ytlmgabhdeeehmaa
