/-
  The walk of pantileref13.Right.
-/
import Derived.Test.YtlmgabhdeeehmaaChg2
namespace Go.Proofs.Ytlmgabhdeeehmaa
open Go.RowKit
set_option linter.unusedVariables false

set_option maxRecDepth 100000 in
set_option maxHeartbeats 8000000 in
theorem rRight_any (k : Int) (l : List Ch) (v : Value) (w : World) (hv : RdC w v l) (hl : l.length ≤ 1000) (hok : OkC l) :
    Calls Try.prog 40 #[.int .i64 k, v] w fun e w' => e = .returned (.bool (rightL k l)) ∧ Below w.heap.size w w' := by
  by_cases hk1 : k < 1
  · have HE := Lib.hid (show rightL k l = false by unfold rightL; rw [decide_eq_false (by omega)]; rfl)
    clear hv hok
    go_enter Try.func40, Try.ntmps40
    go_wp2_with fail
    go_ret
    exact ⟨by rw [HE.out]; rfl, (by repeat (first | exact Below.refl _ _ | assumption | (refine Below.drew ?_) | (refine below_drewN' ?_ _) | (refine below_alloc' ?_ _)))⟩
  by_cases hk2 : k > 16
  · have HE := Lib.hid (show rightL k l = false by unfold rightL; rw [decide_eq_false (by omega)]; rfl)
    clear hv hok
    go_enter Try.func40, Try.ntmps40
    go_wp2_with fail
    go_ret
    exact ⟨by rw [HE.out]; rfl, (by repeat (first | exact Below.refl _ _ | assumption | (refine Below.drew ?_) | (refine below_drewN' ?_ _) | (refine below_alloc' ?_ _)))⟩
  have HR := Lib.hid (show rightL k l = chainB k none l by unfold rightL; rw [decide_eq_true (by omega)]; rfl)
  obtain ⟨A, c, rfl, ga0⟩ := hv
  have HD := Lib.hid (And.intro hl hok)
  have HG := Lib.hid ga0
  clear hl hok ga0
  go_enter Try.func40, Try.ntmps40
  go_wp2_with fail
  go_loopw [5] (fun i wr => ∃ j : Nat, j ≤ l.length ∧ i = .int .i64 j ∧ chainB k (prevOf l j) (l.drop j) = rightL k l ∧ (0 < j → ∀ h : j - 1 < l.length, (l[j - 1].p.length : Int) = k) ∧ Below w.heap.size w wr) (fun i _ => l.length - (intOf i).toNat)
  case atStart => exact ⟨0, Nat.zero_le _, rfl, HR.out.symm, fun h => by omega, (by repeat (first | exact Below.refl _ _ | assumption | (refine Below.drew ?_) | (refine below_drewN' ?_ _) | (refine below_alloc' ?_ _)))⟩
  case round =>
    obtain ⟨j, hj, rfl, hc, hlast, hb⟩ := hrel
    by_cases hlt : j < l.length
    · have h3 : (j : Int) < l.length := by omega
      have h5 : (0 : Int) ≤ (j : Int) := by omega
      obtain ⟨b, o, rfl, ga⟩ := HG.out (by omega)
      have GA := Lib.hid ga
      obtain ⟨v0, c0, hv0, c1, c2, c3, c4⟩ := (ga j hlt).keep (Below.keeps hb)
      have hv0' := Lib.hid hv0
      obtain ⟨A0, cc, rfl, hx0⟩ := RdU.point hv0
      have hok := HD.out.2 l[j] (List.getElem_mem hlt)
      have HW := Lib.hid (show wrap64 ((j : Int) + 1) = ((j + 1 : Nat) : Int) by have := HD.out.1; unfold wrap64; omega)
      have hblt : b < wr.heap.size := World.block_lt_of_cell? wr _ c0
      have HB := Lib.hid hb
      have HPS := Lib.hid (prevOf_succ l j hlt)
      rw [List.drop_eq_getElem_cons hlt] at hc
      simp only [chainB] at hc
      have HC := Lib.hid hc
      have HOK := Lib.hid hok
      have HL := Lib.hid hlast
      have HRr := Lib.hid (show l[j].right = rightBits l[j].had l[j].has ((l[j].old : Int) != 0) ((l[j].new : Int) != 0) ((l[j].old : Int) != (l[j].new : Int)) from rfl)
      clear hx0 ga hb hc hok hlast hv0
      by_cases he : (l[j].p.length : Int) = k
      · have hne : ((l[j].p.length : Int) != k) = false := by simp [he]
        by_cases hr : l[j].right = true
        · rw [hr] at HRr
          have HE1 := HC.out
          rw [decide_eq_true he, hr, Bool.true_and, Bool.true_and] at HE1
          have HK := Lib.hid he
          have hjj : w.heap.size ≤ w.heap.size := Nat.le_refl _
          by_cases hj0 : j = 0
          · have e0 : ¬ (j : Int) > 0 := by omega
            have e0n : decide (0 < j) = false := by simp; omega
            rw [show prevOf l j = none by unfold prevOf; rw [if_pos hj0]] at HE1
            simp only [Bool.true_and] at HE1
            rw [← HPS.out] at HE1
            have HE := Lib.hid HE1
            clear HE1 he hr hj0
            have h := HB.out
            generalize l[j].had = had at *
            generalize l[j].has = has at *
            generalize l[j].old = old at *
            generalize l[j].new = new at *
            obtain ⟨b1, q1⟩ : ∃ b, ((old : Int) != 0) = b := ⟨_, rfl⟩
            obtain ⟨b2, q2⟩ : ∃ b, ((new : Int) != 0) = b := ⟨_, rfl⟩
            obtain ⟨b3, q3⟩ : ∃ b, ((old : Int) == (new : Int)) = b := ⟨_, rfl⟩
            rw [q1, q2, show ((old : Int) != (new : Int)) = !b3 from by rw [← q3]; rfl] at HRr
            cases had <;> cases has <;> cases b1 <;> cases b2 <;> cases b3
            all_goals first
              | exact absurd HRr.out (by decide)
              | (go_wp2_with fail
                 go_quiet (fail)
                 go_wp2_with fail
                 go_roundw
                 case rel => exact ⟨j + 1, by omega, by first | rw [HW.out] | exact congrArg (Value.int .i64) (by omega), HE.out, fun _ _ => HK.out, (by repeat (first | exact Below.refl _ _ | assumption | (refine Below.drew ?_) | (refine below_drewN' ?_ _) | (refine below_alloc' ?_ _)))⟩
                 case measure => first | (rw [intOf_of' HW.out, intOf_of' rfl]; omega) | (rw [intOf_of' rfl, intOf_of' rfl]; omega))
          · have e0 : (j : Int) > 0 := by omega
            have e0n : decide (0 < j) = true := by simp; omega
            obtain ⟨i, hi⟩ : ∃ i, j = i + 1 := ⟨j - 1, by omega⟩
            have hil : i < l.length := by omega
            have ei : wrap64 ((j : Int) - 1) = (i : Int) := by have := HD.out.1; unfold wrap64; omega
            have hi3 : (i : Int) < l.length := by omega
            have hi5 : (0 : Int) ≤ (i : Int) := by omega
            have hki : (l[i].p.length : Int) = k := by
              have := HL.out (by omega) (by omega)
              simp only [hi, Nat.add_sub_cancel] at this
              exact this
            rw [show prevOf l j = some l[i].p by unfold prevOf; rw [if_neg hj0, hi]; simp [hil]] at HE1
            simp only at HE1
            obtain ⟨v1, d0, hv1, d1, d2, d3, d4⟩ := (GA.out i hil).keep (Below.keeps HB.out)
            have hv1' := Lib.hid hv1
            obtain ⟨A1, cc1, rfl, hx1⟩ := RdU.point hv1
            have HCm := Lib.hid (fun (w' : World) (h1 : RdU w' (.slice A1 l[i].p.length cc1) (pti l[i].p)) (h2 : RdU w' (.slice A0 l[j].p.length cc) (pti l[j].p)) => rCmp_any l[i].p l[j].p (.slice A1 l[i].p.length cc1) (.slice A0 l[j].p.length cc) w' h1 h2 (by omega) (by omega) (HD.out.2 _ (List.getElem_mem hil)) HOK.out)
            clear hx1 d1 d2 d3 d4 hv1 hki
            have hblt1 : b < wr.heap.size + 1 := by omega
            have hblt2 : b < wr.heap.size + 1 + 1 := by omega
            by_cases hz : Zb.cmp l[i].p l[j].p < 0
            · rw [decide_eq_true hz, Bool.true_and, ← HPS.out] at HE1
              have HE := Lib.hid HE1
              clear HE1 he hr hj0 hi
              generalize Zb.cmp l[i].p l[j].p = z at *
              have hz' : ¬ z ≥ 0 := by omega
              have h := HB.out
              generalize l[j].had = had at *
              generalize l[j].has = has at *
              generalize l[j].old = old at *
              generalize l[j].new = new at *
              obtain ⟨b1, q1⟩ : ∃ b, ((old : Int) != 0) = b := ⟨_, rfl⟩
              obtain ⟨b2, q2⟩ : ∃ b, ((new : Int) != 0) = b := ⟨_, rfl⟩
              obtain ⟨b3, q3⟩ : ∃ b, ((old : Int) == (new : Int)) = b := ⟨_, rfl⟩
              rw [q1, q2, show ((old : Int) != (new : Int)) = !b3 from by rw [← q3]; rfl] at HRr
              cases had <;> cases has <;> cases b1 <;> cases b2 <;> cases b3
              all_goals first
                | exact absurd HRr.out (by decide)
                | (go_wp2_with fail
                   go_quiet ((go_at_call 85; exact Calls.quiet_of_same ((HCm.out _ (RdU.drewN (RdU.below hv1'.out (by repeat (first | exact Below.refl _ _ | assumption | (refine Below.drew ?_) | (refine below_drewN' ?_ _) | (refine below_alloc' ?_ _)))) _) (RdU.drewN (RdU.below hv0'.out (by repeat (first | exact Below.refl _ _ | assumption | (refine Below.drew ?_) | (refine below_drewN' ?_ _) | (refine below_alloc' ?_ _)))) _)).mono fun e w' ⟨h1, h2⟩ => ⟨h1, h2⟩)))
                   go_wp2_with fail
                   go_roundw
                   case rel => exact ⟨j + 1, by omega, by first | rw [HW.out] | exact congrArg (Value.int .i64) (by omega), HE.out, fun _ _ => HK.out, (by repeat (first | exact Below.refl _ _ | assumption | (refine Below.drew ?_) | (refine below_drewN' ?_ _) | (refine below_alloc' ?_ _)))⟩
                   case measure => first | (rw [intOf_of' HW.out, intOf_of' rfl]; omega) | (rw [intOf_of' rfl, intOf_of' rfl]; omega))
            · rw [decide_eq_false hz, Bool.false_and] at HE1
              have HE := Lib.hid HE1
              clear HE1 he hr hj0 hi
              generalize Zb.cmp l[i].p l[j].p = z at *
              have hz' : z ≥ 0 := by omega
              have h := HB.out
              generalize l[j].had = had at *
              generalize l[j].has = has at *
              generalize l[j].old = old at *
              generalize l[j].new = new at *
              obtain ⟨b1, q1⟩ : ∃ b, ((old : Int) != 0) = b := ⟨_, rfl⟩
              obtain ⟨b2, q2⟩ : ∃ b, ((new : Int) != 0) = b := ⟨_, rfl⟩
              obtain ⟨b3, q3⟩ : ∃ b, ((old : Int) == (new : Int)) = b := ⟨_, rfl⟩
              rw [q1, q2, show ((old : Int) != (new : Int)) = !b3 from by rw [← q3]; rfl] at HRr
              cases had <;> cases has <;> cases b1 <;> cases b2 <;> cases b3
              all_goals first
                | exact absurd HRr.out (by decide)
                | (go_wp2_with fail
                   go_quiet ((go_at_call 85; exact Calls.quiet_of_same ((HCm.out _ (RdU.drewN (RdU.below hv1'.out (by repeat (first | exact Below.refl _ _ | assumption | (refine Below.drew ?_) | (refine below_drewN' ?_ _) | (refine below_alloc' ?_ _)))) _) (RdU.drewN (RdU.below hv0'.out (by repeat (first | exact Below.refl _ _ | assumption | (refine Below.drew ?_) | (refine below_drewN' ?_ _) | (refine below_alloc' ?_ _)))) _)).mono fun e w' ⟨h1, h2⟩ => ⟨h1, h2⟩)))
                   go_wp2_with fail
                   go_ret
                   exact ⟨by rw [← HE.out]; rfl, (by repeat (first | exact Below.refl _ _ | assumption | (refine Below.drew ?_) | (refine below_drewN' ?_ _) | (refine below_alloc' ?_ _)))⟩)
        · have hr : l[j].right = false := by simpa using hr
          rw [hr] at HRr
          have HE := Lib.hid (show rightL k l = false by rw [← HC.out, hr]; simp)
          clear he hr
          have h := HB.out
          generalize l[j].had = had at *
          generalize l[j].has = has at *
          generalize l[j].old = old at *
          generalize l[j].new = new at *
          obtain ⟨b1, q1⟩ : ∃ b, ((old : Int) != 0) = b := ⟨_, rfl⟩
          obtain ⟨b2, q2⟩ : ∃ b, ((new : Int) != 0) = b := ⟨_, rfl⟩
          obtain ⟨b3, q3⟩ : ∃ b, ((old : Int) == (new : Int)) = b := ⟨_, rfl⟩
          rw [q1, q2, show ((old : Int) != (new : Int)) = !b3 from by rw [← q3]; rfl] at HRr
          cases had <;> cases has <;> cases b1 <;> cases b2 <;> cases b3
          all_goals first
            | exact absurd HRr.out (by decide)
            | (go_wp2_with fail
               go_ret
               exact ⟨by rw [HE.out]; rfl, (by repeat (first | exact Below.refl _ _ | assumption | (refine Below.drew ?_) | (refine below_drewN' ?_ _) | (refine below_alloc' ?_ _)))⟩)
      · have hne : ((l[j].p.length : Int) != k) = true := by simpa using he
        have HE := Lib.hid (show rightL k l = false by rw [← HC.out, decide_eq_false he]; simp)
        have h := HB.out
        clear he
        go_wp2_with fail
        go_ret
        exact ⟨by rw [HE.out]; rfl, (by repeat (first | exact Below.refl _ _ | assumption | (refine Below.drew ?_) | (refine below_drewN' ?_ _) | (refine below_alloc' ?_ _)))⟩
    · have HE := Lib.hid (show rightL k l = true by rw [← hc, List.drop_of_length_le (by omega)]; unfold chainB; rfl)
      have HB := Lib.hid hb
      clear hc hlast hb
      go_wp2_with fail
      go_ret
      exact ⟨by rw [HE.out]; rfl, HB.out⟩
end Go.Proofs.Ytlmgabhdeeehmaa
