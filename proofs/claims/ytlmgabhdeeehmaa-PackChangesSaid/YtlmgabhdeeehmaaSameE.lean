/-
  The walk of pantileref12.Same.
-/
import Derived.Test.YtlmgabhdeeehmaaEntC
namespace Go.Proofs.Ytlmgabhdeeehmaa
open Go.RowKit
set_option linter.unusedVariables false
set_option linter.unusedSimpArgs false

/-- the same changes? -/
noncomputable def eqL (l m : List Ch) : Bool := @decide (l = m) (Classical.propDecidable _)
theorem eqL_true {l m : List Ch} (h : l = m) : eqL l m = true := by unfold eqL; exact @decide_eq_true _ (Classical.propDecidable _) h
theorem eqL_false {l m : List Ch} (h : l ≠ m) : eqL l m = false := by unfold eqL; exact @decide_eq_false _ (Classical.propDecidable _) h
theorem eqL_iff {l m : List Ch} : eqL l m = true ↔ l = m := by unfold eqL; exact @decide_eq_true_iff _ (Classical.propDecidable _)
theorem eqL_at {l m : List Ch} {j : Nat} (h1 : j < l.length) (h2 : j < m.length) (h : l[j] ≠ m[j]) : eqL l m = false := eqL_false fun e => by subst e; exact h rfl


theorem quiet_more {P : Program} {f : FuncId} {args : Array Value} {w : World} {n x : Nat} {v : Value}
    (h : Calls P f args (w.drewN (n + x)) fun e w'' => e = .returned v ∧ ∃ m, w'' = (w.drewN (n + x)).drewN m) : Calls P f args (w.drewN (n + x)) fun e w'' => e = .returned v ∧ ∃ m, w'' = w.drewN (n + m) :=
  h.mono fun e w' ⟨h1, q, h2⟩ => ⟨h1, x + q, by rw [h2, World.drewN_drewN, Nat.add_assoc]⟩

set_option maxRecDepth 100000 in
set_option maxHeartbeats 8000000 in
theorem rSameC_any (l m : List Ch) (va vb : Value) (w : World) (ha : RdC w va l) (hb : RdC w vb m) (hn : l.length ≤ 1000) (h40 : ∀ c ∈ l, c.p.length ≤ 40) :
    Calls Try.prog 43 #[va, vb] w fun e w' => e = .returned (.bool (eqL l m)) ∧ ∃ n, w' = w.drewN n := by
  obtain ⟨A, c, rfl, ga0⟩ := ha
  obtain ⟨B, d, rfl, gb0⟩ := hb
  have HD := Lib.hid (And.intro hn h40)
  clear hn h40
  by_cases hlm : l.length = m.length
  · have hne : ((l.length : Int) != (m.length : Int)) = false := by simp [hlm]
    have HL := Lib.hid hlm
    have HGA := Lib.hid ga0
    have HGB := Lib.hid gb0
    clear hlm ga0 gb0
    go_enter Try.func43, Try.ntmps43
    go_wp2_with fail
    go_loopw [5] (fun i wr => ∃ (j n : Nat), j ≤ l.length ∧ i = .int .i64 j ∧ l.take j = m.take j ∧ wr = w.drewN n) (fun i _ => l.length - (intOf i).toNat)
    case atStart => exact ⟨0, 0, Nat.zero_le _, rfl, rfl, rfl⟩
    case round =>
      obtain ⟨j, n, hj, rfl, htk, rfl⟩ := hrel
      by_cases hlt : j < l.length
      · have hmt : j < m.length := by have := HL.out; omega
        have h3 : (j : Int) < l.length := by omega
        have h4 : (j : Int) < m.length := by omega
        have h5 : (0 : Int) ≤ (j : Int) := by omega
        obtain ⟨bk, ofs, rfl, ga⟩ := HGA.out (by omega)
        obtain ⟨bk2, ofs2, rfl, gb⟩ := HGB.out (by omega)
        obtain ⟨v0, k0, hv0, k1, k2, k3, k4⟩ := ga j hlt
        obtain ⟨w0, m0, hw0, m1, m2, m3, m4⟩ := gb j hmt
        have HS := Lib.hid (fun (w' : World) (h1 : RdU w' v0 (pti l[j].p)) (h2 : RdU w' w0 (pti m[j].p)) => Same_any _ _ _ _ w' h1 h2 (by unfold pti; rw [List.length_map]; have := HD.out.2 _ (List.getElem_mem hlt); omega))
        rw [pti_inj] at HS
        have HV := Lib.hid (And.intro hv0 hw0)
        have HW := Lib.hid (show wrap64 ((j : Int) + 1) = ((j + 1 : Nat) : Int) by have := HD.out.1; unfold wrap64; omega)
        have HN := Lib.hid (show l[j] = m[j] → l.take (j + 1) = m.take (j + 1) from fun h => by rw [← List.take_append_getElem hlt, ← List.take_append_getElem hmt, htk, h])
        have HF := Lib.hid (show l[j] ≠ m[j] → eqL l m = false from eqL_at hlt hmt)
        obtain ⟨A0, cc, rfl, hx0⟩ := RdU.point hv0
        obtain ⟨A1, cd, rfl, hx1⟩ := RdU.point hw0
        clear ga gb hv0 hw0 hx0 hx1 htk
        generalize l[j] = x at *
        generalize m[j] = y at *
        obtain ⟨xp, xhad, xhas, xold, xnew⟩ := x
        obtain ⟨yp, yhad, yhas, yold, ynew⟩ := y
        simp only at k0 k1 k2 k3 k4 m0 m1 m2 m3 m4
        simp only at HS HV
        have hb0 : Below w.heap.size w (w.drewN n) := drewN_below _ _
        obtain ⟨b3, e3⟩ : ∃ b, ((xold : Int) != (yold : Int)) = b := ⟨_, rfl⟩
        obtain ⟨b4, e4⟩ : ∃ b, ((xnew : Int) != (ynew : Int)) = b := ⟨_, rfl⟩
        obtain ⟨b5, e5⟩ : ∃ b, decide (xp = yp) = b := ⟨_, rfl⟩
        rw [e5] at HS
        have HE := Lib.hid (And.intro e3 (And.intro e4 e5))
        clear e5
        have hcase : xhad = yhad ∨ (xhad = false ∧ yhad = true) ∨ (xhad = true ∧ yhad = false) := by cases xhad <;> cases yhad <;> simp
        rcases hcase with hq | hq | hq
        rotate_left
        · obtain ⟨rfl, rfl⟩ := hq
          have HF2 := Lib.hid (HF.out (by intro h; injection h with a1 a2 a3 a4 a5; cases a2))
          clear HN HF
          go_wp2_with fail
          go_quiet (fail)
          go_wp2_with fail
          go_ret
          exact ⟨by rw [HF2.out] <;> rfl, _, by first | rfl | exact World.drewN_drewN ..⟩
        · obtain ⟨rfl, rfl⟩ := hq
          have HF2 := Lib.hid (HF.out (by intro h; injection h with a1 a2 a3 a4 a5; cases a2))
          clear HN HF
          go_wp2_with fail
          go_quiet (fail)
          go_wp2_with fail
          go_ret
          exact ⟨by rw [HF2.out] <;> rfl, _, by first | rfl | exact World.drewN_drewN ..⟩
        · have hcase : xhas = yhas ∨ (xhas = false ∧ yhas = true) ∨ (xhas = true ∧ yhas = false) := by cases xhas <;> cases yhas <;> simp
          have HQ := Lib.hid hq
          rcases hcase with hr | hr | hr
          rotate_left
          · obtain ⟨rfl, rfl⟩ := hr
            subst hq
            cases xhad
            all_goals
              have HF2 := Lib.hid (HF.out (by intro h; injection h with a1 a2 a3 a4 a5; cases a3))
              clear HN HF
              go_wp2_with fail
              go_quiet (fail)
              go_wp2_with fail
              go_ret
              exact ⟨by rw [HF2.out] <;> rfl, _, by first | rfl | exact World.drewN_drewN ..⟩
          · obtain ⟨rfl, rfl⟩ := hr
            subst hq
            cases xhad
            all_goals
              have HF2 := Lib.hid (HF.out (by intro h; injection h with a1 a2 a3 a4 a5; cases a3))
              clear HN HF
              go_wp2_with fail
              go_quiet (fail)
              go_wp2_with fail
              go_ret
              exact ⟨by rw [HF2.out] <;> rfl, _, by first | rfl | exact World.drewN_drewN ..⟩
          · subst hq hr
            clear HQ
            cases b3 with
            | true =>
              cases xhad <;> cases xhas
              all_goals
                have HF2 := Lib.hid (HF.out (by intro h; injection h with a1 a2 a3 a4 a5; have := HE.out.1; rw [show xold = yold from by first | exact a4 | exact_mod_cast a4] at this; simp at this))
                clear HN HF
                go_wp2_with fail
                go_quiet (fail)
                go_wp2_with fail
                go_ret
                exact ⟨by rw [HF2.out] <;> rfl, _, by first | rfl | exact World.drewN_drewN ..⟩
            | false =>
              cases b4 with
              | true =>
                cases xhad <;> cases xhas
                all_goals
                  have HF2 := Lib.hid (HF.out (by intro h; injection h with a1 a2 a3 a4 a5; have := HE.out.2.1; rw [show xnew = ynew from by first | exact a5 | exact_mod_cast a5] at this; simp at this))
                  clear HN HF
                  go_wp2_with fail
                  go_quiet (fail)
                  go_wp2_with fail
                  go_ret
                  exact ⟨by rw [HF2.out] <;> rfl, _, by first | rfl | exact World.drewN_drewN ..⟩
              | false =>
                cases b5 with
                | false =>
                  cases xhad <;> cases xhas
                  all_goals
                    have HF2 := Lib.hid (HF.out (by intro h; injection h with a1 a2 a3 a4 a5; have := HE.out.2.2; rw [a1] at this; simp at this))
                    clear HN HF
                    go_wp2_with fail
                    go_quiet ((go_at_call 19; exact quiet_more (HS.out _ (RdU.drewN HV.out.1 _) (RdU.drewN HV.out.2 _))))
                    go_wp2_with fail
                    go_ret
                    exact ⟨by rw [HF2.out] <;> rfl, _, by first | rfl | exact World.drewN_drewN ..⟩
                | true =>
                  have h1 : xold = yold := by have := HE.out.1; simp only [bne_eq_false_iff_eq] at this; omega
                  have h2 : xnew = ynew := by have := HE.out.2.1; simp only [bne_eq_false_iff_eq] at this; omega
                  have h6 : xp = yp := by have := HE.out.2.2; simpa using this
                  have HN2 := Lib.hid (HN.out (by rw [h1, h2, h6]))
                  clear h1 h2 h6 HN HF HE
                  cases xhad <;> cases xhas
                  all_goals
                    go_wp2_with fail
                    go_quiet ((go_at_call 19; exact quiet_more (HS.out _ (RdU.drewN HV.out.1 _) (RdU.drewN HV.out.2 _))))
                    go_wp2_with fail
                    go_roundw
                    case rel => exact ⟨j + 1, _, by omega, by first | rw [HW.out] | exact congrArg (Value.int .i64) (by omega), HN2.out, by first | rfl | exact World.drewN_drewN ..⟩
                    case measure => first | (rw [intOf_of' HW.out, intOf_of' rfl]; omega) | (rw [intOf_of' rfl, intOf_of' rfl]; omega)
      · have HA := Lib.hid (show eqL l m = true from eqL_true (by rw [List.take_of_length_le (by omega), List.take_of_length_le (by have := HL.out; omega)] at htk; exact htk))
        clear htk
        go_wp2_with fail
        go_ret
        exact ⟨by rw [HA.out] <;> rfl, _, rfl⟩
  · have hne : ((l.length : Int) != (m.length : Int)) = true := by simp; omega
    have HF := Lib.hid (show eqL l m = false from eqL_false fun h => hlm (by rw [h]))
    clear hlm ga0 gb0
    go_enter Try.func43, Try.ntmps43
    go_wp2_with fail
    go_ret
    exact ⟨by rw [HF.out] <;> rfl, 0, rfl⟩
end Go.Proofs.Ytlmgabhdeeehmaa
