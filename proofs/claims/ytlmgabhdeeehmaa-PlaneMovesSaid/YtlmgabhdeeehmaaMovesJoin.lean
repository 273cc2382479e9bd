/-
  PlaneMoves: whatever comes in, it returns true.
-/
import Derived.Test.YtlmgabhdeeehmaaLawMoves
import Derived.Test.YtlmgabhdeeehmaaLawMoves2
namespace Go.Proofs.Ytlmgabhdeeehmaa
open Go.RowKit
set_option linter.unusedVariables false
set_option linter.unusedSimpArgs false

theorem moveR_len (t : Int) (f : Bool) (x y : Int) (p : List Int) : (Pl.moveR t f x y p).1.length ≤ 40 := by
  unfold Pl.moveR
  split
  · simp
  · split
    · split
      · simp
      · split <;> simp
    · simp

set_option maxRecDepth 100000 in
set_option maxHeartbeats 4000000 in
theorem planeMoves_all (t : Int) (f : Bool) (x y u : Int) (g : Bool) (c d : Int) (A : Option Addr) (n cp : Nat) (xs : List Int) (w : World) (hv : RdU w (.slice A n cp) xs) (hp : ∀ z ∈ xs, 0 ≤ z) (hl : xs.length = n) (hm : n ≤ maxLen) :
    Calls Try.prog 4 #[Mo t f x y, Mo u g c d, .slice A n cp] w fun e w' => e = .returned (.bool true) ∧ Below w.heap.size w w' := by
  by_cases h40 : n ≤ 40
  · cases hr : Pl.rightB t x y with
    | false =>
      refine moves_a t f x y u g c d A n cp xs w hv h40 hr (by intro w v h; have := Move_any t f x y v xs w h hp; rwa [Pl.moveR_right f xs hr] at this) ?_
      intro w
      have := Then_any t f x y u g c d w
      rwa [show thenV t f x y u g c d = (Mz, 3) by unfold thenV; rw [if_pos hr]] at this
    | true =>
      have hR := Pl.rightB_iff.1 hr
      have bk := fun w : World => Back_any t f x y w hr
      have hbr := Pl.back_right f hr
      cases hs : Pl.rightB u c d with
      | false =>
        have th : ∀ w : World, Calls Try.prog 22 #[Mo t f x y, Mo u g c d] w fun e w' => e = .returned (.tuple #[Mz, .int .i64 3]) ∧ Below w.heap.size w w' := by
          intro w
          have := Then_any t f x y u g c d w
          rwa [show thenV t f x y u g c d = (Mz, 3) by unfold thenV; simp [hr, hs]] at this
        by_cases hn : n = 2
        · obtain ⟨p, q, rfl⟩ : ∃ p q, xs = [p, q] := by
            match xs, hl.trans hn with
            | [p, q], _ => exact ⟨p, q, rfl⟩
          cases hsm : Pl.smallB [p, q] with
          | false => exact moves_no_small t f x y u g c d A n cp _ w hv h40 hr _ _ _ bk hbr p q rfl (hp p (by simp)) (hp q (by simp)) hn hsm (by intro w v h; have := Move_any t f x y v _ w h hp; rwa [Pl.moveR_small f hr hsm] at this) hs th
          | true =>
            have hpq : (0 ≤ p ∧ p < 1048576) ∧ (0 ≤ q ∧ q < 1048576) := by
              have h1 := hp p (by simp)
              have h2 := hp q (by simp)
              simp [Pl.smallB] at hsm; omega
            cases hc : (Pl.coordB (Pl.turnX t f p q + x) && Pl.coordB (Pl.turnY t f p q + y)) with
            | false => exact moves_no_long t f x y u g c d A n cp _ w hv h40 hr _ _ _ bk hbr p q rfl (hp p (by simp)) (hp q (by simp)) hn hsm (by intro w v h; have := Move_any t f x y v _ w h hp; rwa [Pl.moveR_long hr hsm hc] at this) hs th (by intro w v h; have := RefMove_any t f x y p q v w hr h hpq.1 hpq.2; rwa [if_neg (by rw [hc]; simp)] at this)
            | true =>
              have hc2 : (0 ≤ Pl.turnX t f p q + x ∧ Pl.turnX t f p q + x < 1048576) ∧ (0 ≤ Pl.turnY t f p q + y ∧ Pl.turnY t f p q + y < 1048576) := by simpa only [Bool.and_eq_true, Pl.coordB_iff] using hc
              exact moves_no_fine t f x y u g c d A n cp _ w hv h40 hr _ _ _ bk hbr p q rfl (hp p (by simp)) (hp q (by simp)) hn hsm _ _ (by intro w v h; have := Move_any t f x y v _ w h hp; rwa [Pl.moveR_fine hr hsm hc] at this) hs th (by intro w v h; have := RefMove_any t f x y p q v w hr h hpq.1 hpq.2; rwa [if_pos hc] at this) (by intro w v h; have := Move_any (Pl.backT t f) f (Pl.backX t f x y) (Pl.backY t f x y) v _ w h (by intro z hz; simp only [List.mem_cons, List.not_mem_nil, or_false] at hz; rcases hz with rfl | rfl <;> omega); rwa [Pl.moveR_back hr hsm hpq.1.1 hpq.2.1 hc] at this)
        · exact moves_no_dim t f x y u g c d A n cp xs w hv h40 hr _ _ _ bk hbr hn (by intro w v h; have := Move_any t f x y v xs w h hp; rwa [Pl.moveR_dim f hr (by omega)] at this) hs th
      | true =>
        have hS := Pl.rightB_iff.1 hs
        have hb0 := Pl.turn_bound (f := g) (t := u) hS.1 hS.2.1 (x := x) (y := y) (B := 2097152) (by omega) (by omega)
        have hb1 : -8388608 ≤ Pl.turnX u g x y ∧ Pl.turnX u g x y ≤ 8388608 := by omega
        have hb2 : -8388608 ≤ Pl.turnY u g x y ∧ Pl.turnY u g x y ≤ 8388608 := by omega
        cases hi : Pl.rightB 0 (Pl.turnX u g x y + c) (Pl.turnY u g x y + d) with
        | false =>
          have th : ∀ w : World, Calls Try.prog 22 #[Mo t f x y, Mo u g c d] w fun e w' => e = .returned (.tuple #[Mz, .int .i64 11]) ∧ Below w.heap.size w w' := by
            intro w
            have := Then_any t f x y u g c d w
            rwa [show thenV t f x y u g c d = (Mz, 11) by unfold thenV; rw [Pl.right_then, hi]; simp [hr, hs]] at this
          by_cases hn : n = 2
          · obtain ⟨p, q, rfl⟩ : ∃ p q, xs = [p, q] := by
              match xs, hl.trans hn with
              | [p, q], _ => exact ⟨p, q, rfl⟩
            cases hsm : Pl.smallB [p, q] with
            | false => exact moves_out_small t f x y u g c d A n cp _ w hv h40 hr _ _ _ bk hbr p q rfl (hp p (by simp)) (hp q (by simp)) hn hsm (by intro w v h; have := Move_any t f x y v _ w h hp; rwa [Pl.moveR_small f hr hsm] at this) hs _ _ hb1 hb2 (fun w => Turned_any u g x y w hS.1 hS.2.1 (by omega) (by omega)) hi th
            | true =>
              have hpq : (0 ≤ p ∧ p < 1048576) ∧ (0 ≤ q ∧ q < 1048576) := by
                have h1 := hp p (by simp)
                have h2 := hp q (by simp)
                simp [Pl.smallB] at hsm; omega
              cases hc : (Pl.coordB (Pl.turnX t f p q + x) && Pl.coordB (Pl.turnY t f p q + y)) with
              | false => exact moves_out_long t f x y u g c d A n cp _ w hv h40 hr _ _ _ bk hbr p q rfl (hp p (by simp)) (hp q (by simp)) hn hsm (by intro w v h; have := Move_any t f x y v _ w h hp; rwa [Pl.moveR_long hr hsm hc] at this) hs _ _ hb1 hb2 (fun w => Turned_any u g x y w hS.1 hS.2.1 (by omega) (by omega)) hi th (by intro w v h; have := RefMove_any t f x y p q v w hr h hpq.1 hpq.2; rwa [if_neg (by rw [hc]; simp)] at this)
              | true =>
                have hc2 : (0 ≤ Pl.turnX t f p q + x ∧ Pl.turnX t f p q + x < 1048576) ∧ (0 ≤ Pl.turnY t f p q + y ∧ Pl.turnY t f p q + y < 1048576) := by simpa only [Bool.and_eq_true, Pl.coordB_iff] using hc
                exact moves_out_fine t f x y u g c d A n cp _ w hv h40 hr _ _ _ bk hbr p q rfl (hp p (by simp)) (hp q (by simp)) hn hsm _ _ (by intro w v h; have := Move_any t f x y v _ w h hp; rwa [Pl.moveR_fine hr hsm hc] at this) hs _ _ hb1 hb2 (fun w => Turned_any u g x y w hS.1 hS.2.1 (by omega) (by omega)) hi th (by intro w v h; have := RefMove_any t f x y p q v w hr h hpq.1 hpq.2; rwa [if_pos hc] at this) (by intro w v h; have := Move_any (Pl.backT t f) f (Pl.backX t f x y) (Pl.backY t f x y) v _ w h (by intro z hz; simp only [List.mem_cons, List.not_mem_nil, or_false] at hz; rcases hz with rfl | rfl <;> omega); rwa [Pl.moveR_back hr hsm hpq.1.1 hpq.2.1 hc] at this)
          · exact moves_out_dim t f x y u g c d A n cp xs w hv h40 hr _ _ _ bk hbr hn (by intro w v h; have := Move_any t f x y v xs w h hp; rwa [Pl.moveR_dim f hr (by omega)] at this) hs _ _ hb1 hb2 (fun w => Turned_any u g x y w hS.1 hS.2.1 (by omega) (by omega)) hi th
        | true =>
          have hi2 : Pl.rightB (Pl.thenT t u g) (Pl.thenX u g c x y) (Pl.thenY u g d x y) = true := Pl.right_then.trans hi
          have th : ∀ w : World, Calls Try.prog 22 #[Mo t f x y, Mo u g c d] w fun e w' => e = .returned (.tuple #[Mo (Pl.thenT t u g) (f != g) (Pl.turnX u g x y + c) (Pl.turnY u g x y + d), .int .i64 0]) ∧ Below w.heap.size w w' := by
            intro w
            have := Then_any t f x y u g c d w
            rwa [show thenV t f x y u g c d = (Mo (Pl.thenT t u g) (f != g) (Pl.turnX u g x y + c) (Pl.turnY u g x y + d), 0) by unfold thenV; rw [hi2]; simp [hr, hs, Pl.thenX, Pl.thenY]] at this
          by_cases hn : n = 2
          · obtain ⟨p, q, rfl⟩ : ∃ p q, xs = [p, q] := by
              match xs, hl.trans hn with
              | [p, q], _ => exact ⟨p, q, rfl⟩
            cases hsm : Pl.smallB [p, q] with
            | false => exact moves_in_small t f x y u g c d A n cp _ w hv h40 hr _ _ _ bk hbr p q rfl (hp p (by simp)) (hp q (by simp)) hn hsm (by intro w v h; have := Move_any t f x y v _ w h hp; rwa [Pl.moveR_small f hr hsm] at this) hs (Pl.thenT t u g) (f != g) _ _ hb1 hb2 (fun w => Turned_any u g x y w hS.1 hS.2.1 (by omega) (by omega)) hi hi2 th
            | true =>
              have hpq : (0 ≤ p ∧ p < 1048576) ∧ (0 ≤ q ∧ q < 1048576) := by
                have h1 := hp p (by simp)
                have h2 := hp q (by simp)
                simp [Pl.smallB] at hsm; omega
              cases hc : (Pl.coordB (Pl.turnX t f p q + x) && Pl.coordB (Pl.turnY t f p q + y)) with
              | false => exact moves_in_long t f x y u g c d A n cp _ w hv h40 hr _ _ _ bk hbr p q rfl (hp p (by simp)) (hp q (by simp)) hn hsm (by intro w v h; have := Move_any t f x y v _ w h hp; rwa [Pl.moveR_long hr hsm hc] at this) hs (Pl.thenT t u g) (f != g) _ _ hb1 hb2 (fun w => Turned_any u g x y w hS.1 hS.2.1 (by omega) (by omega)) hi hi2 th (by intro w v h; have := RefMove_any t f x y p q v w hr h hpq.1 hpq.2; rwa [if_neg (by rw [hc]; simp)] at this)
              | true =>
                have hc2 : (0 ≤ Pl.turnX t f p q + x ∧ Pl.turnX t f p q + x < 1048576) ∧ (0 ≤ Pl.turnY t f p q + y ∧ Pl.turnY t f p q + y < 1048576) := by simpa only [Bool.and_eq_true, Pl.coordB_iff] using hc
                exact moves_in_fine t f x y u g c d A n cp _ w hv h40 hr _ _ _ bk hbr p q rfl (hp p (by simp)) (hp q (by simp)) hn hsm _ _ (by intro w v h; have := Move_any t f x y v _ w h hp; rwa [Pl.moveR_fine hr hsm hc] at this) hs (Pl.thenT t u g) (f != g) _ _ hb1 hb2 (fun w => Turned_any u g x y w hS.1 hS.2.1 (by omega) (by omega)) hi hi2 th (by intro w v h; have := RefMove_any t f x y p q v w hr h hpq.1 hpq.2; rwa [if_pos hc] at this) (by intro w v h; have := Move_any (Pl.backT t f) f (Pl.backX t f x y) (Pl.backY t f x y) v _ w h (by intro z hz; simp only [List.mem_cons, List.not_mem_nil, or_false] at hz; rcases hz with rfl | rfl <;> omega); rwa [Pl.moveR_back hr hsm hpq.1.1 hpq.2.1 hc] at this) (Pl.moveR (Pl.thenT t u g) (f != g) (Pl.turnX u g x y + c) (Pl.turnY u g x y + d) [p, q]).1 (Pl.moveR (Pl.thenT t u g) (f != g) (Pl.turnX u g x y + c) (Pl.turnY u g x y + d) [p, q]).2 (moveR_len _ _ _ _ _) (by intro w v h; have := Move_any u g c d v _ w h (by intro z hz; simp only [List.mem_cons, List.not_mem_nil, or_false] at hz; rcases hz with rfl | rfl <;> omega); rwa [Pl.moveR_then hr hs hi2 hsm hc] at this) (fun w v h => Move_any _ _ _ _ v _ w h hp)
          · exact moves_in_dim t f x y u g c d A n cp xs w hv h40 hr _ _ _ bk hbr hn (by intro w v h; have := Move_any t f x y v xs w h hp; rwa [Pl.moveR_dim f hr (by omega)] at this) hs (Pl.thenT t u g) (f != g) _ _ hb1 hb2 (fun w => Turned_any u g x y w hS.1 hS.2.1 (by omega) (by omega)) hi hi2 th
  · clear hv hp hl
    have h41 : (40 : Int) < (n : Int) := by omega
    go_enter Try.func4, Try.ntmps4
    go_wp2_with fail
    refine Calls.mono (awake27 _) ?_
    rintro e w1 ⟨rfl, hb⟩
    go_wp2_with fail
    go_ret
    exact ⟨rfl, below_trans (by repeat (first | exact Below.refl _ _ | assumption | (refine Below.drew ?_) | (refine below_drewN' ?_ _) | (refine below_alloc' ?_ _))) hb⟩

end Go.Proofs.Ytlmgabhdeeehmaa
