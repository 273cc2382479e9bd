/-
  The walk of pantilelaw13.EditThen: it returns true.
-/
import Derived.Test.YtlmgabhdeeehmaaLawEdit
import Derived.Test.YtlmgabhdeeehmaaChg3
namespace Go.Proofs.Ytlmgabhdeeehmaa
open Go.RowKit
set_option linter.unusedVariables false
set_option linter.unusedSimpArgs false

theorem heavy_parts {l : List Ch} {n : Nat} (h : heavyB l n = false) : l.length ≤ n ∧ ∀ c ∈ l, c.p.length ≤ 40 := by
  unfold heavyB at h
  simp only [Bool.or_eq_false_iff, decide_eq_false_iff_not, List.any_eq_false, decide_eq_true_eq] at h
  exact ⟨by omega, fun c hc => by have := h.2 c hc; omega⟩

set_option maxRecDepth 100000 in
set_option maxHeartbeats 4000000 in
theorem editThen_any (k : Int) (a b : List Ch) (va vb : Value) (w : World) (ha : RdC w va a ∧ CapOk va) (hb : RdC w vb b ∧ CapOk vb) (oa : OkC a) (ob : OkC b) :
    Calls Try.prog 9 #[.int .i64 k, va, vb] w fun e w' => e = .returned (.bool true) ∧ Below w.heap.size w w' := by
  have HA := Lib.hid ha
  have HB := Lib.hid hb
  have HH1 := Lib.hid (fun (w' : World) (h : RdC w' va a) => Heavy_any a 30 va w' h (by decide))
  have HH2 := Lib.hid (fun (w' : World) (h : RdC w' vb b) => Heavy_any b 30 vb w' h (by decide))
  clear ha hb
  cases ea : heavyB a 30 with
  | true =>
    rw [ea] at HH1
    clear ea HH2
    go_enter Try.func9, Try.ntmps9
    go_wp2_with fail
    refine (awake_any _).mono ?_
    rintro e w0 ⟨rfl, hb0⟩
    have HB0 := Lib.hid hb0
    clear hb0
    go_wp2_with fail
    refine (HH1.out _ (HA.out.1.below HB0.out)).mono ?_
    rintro e w1 ⟨rfl, rfl⟩
    go_wp2_with fail
    go_ret
    exact ⟨rfl, HB0.out⟩
  | false =>
    rw [ea] at HH1
    cases eb : heavyB b 30 with
    | true =>
      rw [eb] at HH2
      clear ea eb
      go_enter Try.func9, Try.ntmps9
      go_wp2_with fail
      refine (awake_any _).mono ?_
      rintro e w0 ⟨rfl, hb0⟩
      have HB0 := Lib.hid hb0
      clear hb0
      go_wp2_with fail
      refine (HH1.out _ (HA.out.1.below HB0.out)).mono ?_
      rintro e w1 ⟨rfl, rfl⟩
      go_wp2_with fail
      refine (HH2.out _ (HB.out.1.below HB0.out)).mono ?_
      rintro e w1 ⟨rfl, rfl⟩
      go_wp2_with fail
      go_ret
      exact ⟨rfl, HB0.out⟩
    | false =>
      rw [eb] at HH2
      obtain ⟨la, pa⟩ := heavy_parts ea
      obtain ⟨lb, pb⟩ := heavy_parts eb
      have HT := Lib.hid (fun (w' : World) (h1 : RdC w' va a ∧ CapOk va) (h2 : RdC w' vb b ∧ CapOk vb) => eThen_any k a b va vb w' h1 h2 (by omega) (by omega) oa ob)
      have HTB := Lib.hid (fun (w' : World) (h1 : RdC w' vb b ∧ CapOk vb) (h2 : RdC w' va a ∧ CapOk va) => eThen_any k b a vb va w' h1 h2 (by omega) (by omega) ob oa)
      have HAp := Lib.hid (fun (w' : World) (h1 : RdC w' va a ∧ CapOk va) (h2 : RdC w' vb b ∧ CapOk vb) => eApart_any k a b va vb w' h1 h2 (by omega) (by omega) oa ob)
      have HR1 := Lib.hid (fun (w' : World) (h1 : RdC w' va a) => rRight_any k a va w' h1 (by omega) oa)
      have HR2 := Lib.hid (fun (w' : World) (h1 : RdC w' vb b) => rRight_any k b vb w' h1 (by omega) ob)
      have HRA := Lib.hid (fun (w' : World) (h1 : RdC w' va a) (h2 : RdC w' vb b) => rApart_any a b va vb w' h1 h2 (by omega) pb (by omega))
      unfold ApP at HAp
      clear ea eb
      cases r1 : rightL k a with
      | false =>
        rw [r1] at HT HAp HR1
        rw [show okV (false && rightL k b) (apartL a b) = false from rfl, show okC (false && rightL k b) = 9 from rfl] at HAp
        rw [show (false && rightL k b) = false from rfl] at HT
        clear r1 HTB HR2 HRA pa pb la lb oa ob
        go_enter Try.func9, Try.ntmps9
        go_wp2_with fail
        refine (awake_any _).mono ?_
        rintro e w0 ⟨rfl, hb0⟩
        have HB0 := Lib.hid hb0
        clear hb0
        go_wp2_with fail
        refine (HH1.out _ (HA.out.1.below HB0.out)).mono ?_
        rintro e w1 ⟨rfl, rfl⟩
        go_wp2_with fail
        refine (HH2.out _ (HB.out.1.below HB0.out)).mono ?_
        rintro e w1 ⟨rfl, rfl⟩
        go_wp2_with fail
        refine (HT.out _ ⟨HA.out.1.below HB0.out, HA.out.2⟩ ⟨HB.out.1.below HB0.out, HB.out.2⟩).mono ?_
        rintro e w2 ⟨rfl, hb2⟩
        have HB2 := Lib.hid (HB0.out.trans (hb2.mono HB0.out.size))
        clear hb2
        go_wp2_with fail
        refine (HAp.out _ ⟨HA.out.1.below HB2.out, HA.out.2⟩ ⟨HB.out.1.below HB2.out, HB.out.2⟩).mono ?_
        rintro e w3 ⟨rfl, hb3⟩
        have HB3 := Lib.hid (HB2.out.trans (hb3.mono HB2.out.size))
        have HK3 := Lib.hid hb3
        clear hb3
        go_wp2_with fail
        refine (HR1.out _ (HA.out.1.below HB3.out)).mono ?_
        rintro e w4 ⟨rfl, hb4⟩
        have HB4 := Lib.hid (HB3.out.trans (hb4.mono HB3.out.size))
        have HK4 := Lib.hid (HK3.out.trans (hb4.mono HK3.out.size))
        clear hb4
        go_wp2_with fail
        go_ret
        exact ⟨rfl, HB4.out⟩
      | true =>
        rw [r1] at HT HAp HR1 HTB
        cases r2 : rightL k b with
        | false =>
          rw [r2] at HT HAp HR2
          rw [show okV (true && false) (apartL a b) = false from rfl, show okC (true && false) = 9 from rfl] at HAp
          rw [show (true && false) = false from rfl] at HT
          clear r1 r2 HTB HRA pa pb la lb oa ob
          go_enter Try.func9, Try.ntmps9
          go_wp2_with fail
          refine (awake_any _).mono ?_
          rintro e w0 ⟨rfl, hb0⟩
          have HB0 := Lib.hid hb0
          clear hb0
          go_wp2_with fail
          refine (HH1.out _ (HA.out.1.below HB0.out)).mono ?_
          rintro e w1 ⟨rfl, rfl⟩
          go_wp2_with fail
          refine (HH2.out _ (HB.out.1.below HB0.out)).mono ?_
          rintro e w1 ⟨rfl, rfl⟩
          go_wp2_with fail
          refine (HT.out _ ⟨HA.out.1.below HB0.out, HA.out.2⟩ ⟨HB.out.1.below HB0.out, HB.out.2⟩).mono ?_
          rintro e w2 ⟨rfl, hb2⟩
          have HB2 := Lib.hid (HB0.out.trans (hb2.mono HB0.out.size))
          clear hb2
          go_wp2_with fail
          refine (HAp.out _ ⟨HA.out.1.below HB2.out, HA.out.2⟩ ⟨HB.out.1.below HB2.out, HB.out.2⟩).mono ?_
          rintro e w3 ⟨rfl, hb3⟩
          have HB3 := Lib.hid (HB2.out.trans (hb3.mono HB2.out.size))
          have HK3 := Lib.hid hb3
          clear hb3
          go_wp2_with fail
          refine (HR1.out _ (HA.out.1.below HB3.out)).mono ?_
          rintro e w4 ⟨rfl, hb4⟩
          have HB4 := Lib.hid (HB3.out.trans (hb4.mono HB3.out.size))
          have HK4 := Lib.hid (HK3.out.trans (hb4.mono HK3.out.size))
          clear hb4
          go_wp2_with fail
          refine (HR2.out _ (HB.out.1.below HB4.out)).mono ?_
          rintro e w5 ⟨rfl, hb5⟩
          have HB5 := Lib.hid (HB4.out.trans (hb5.mono HB4.out.size))
          have HK5 := Lib.hid (HK4.out.trans (hb5.mono HK4.out.size))
          clear hb5
          go_wp2_with fail
          go_ret
          exact ⟨rfl, HB5.out⟩
        | true =>
          rw [r2] at HT HAp HR2 HTB
          rw [show (true && true) = true from rfl] at HT HTB HAp
          rw [show okV true (apartL a b) = apartL a b by unfold okV; simp, show okC true = 0 from rfl] at HAp
          obtain ⟨n, rfl, n1, n16, ra⟩ := rightL_rt oa r1
          obtain ⟨n', e', _, _, rb⟩ := rightL_rt ob r2
          obtain rfl : n' = n := by omega
          have HRT := Lib.hid (fun (w' : World) (h1 : RdC w' va a) (h2 : RdC w' vb b) => rThen_any n' a b va vb w' h1 h2 ra rb n16 (by omega) (by omega))
          rw [← then_law ra rb] at HRT
          rw [← apart_law ra rb] at HRA
          have hturn := turn_law ra rb
          have hright := fun o (h : thenL a b = some o) => then_right ra rb h
          have hlen := fun o (h : thenL a b = some o) => then_length h
          cases ho : thenL a b with
          | none =>
            rw [ho] at HT HRT
            clear hturn hright hlen ho ra rb r1 r2 e' HTB oa ob pa pb la lb n1 n16
            generalize apartL a b = ap at *
            cases ap
            all_goals
              go_enter Try.func9, Try.ntmps9
              go_wp2_with fail
              refine (awake_any _).mono ?_
              rintro e w0 ⟨rfl, hb0⟩
              have HB0 := Lib.hid hb0
              clear hb0
              go_wp2_with fail
              refine (HH1.out _ (HA.out.1.below HB0.out)).mono ?_
              rintro e w1 ⟨rfl, rfl⟩
              go_wp2_with fail
              refine (HH2.out _ (HB.out.1.below HB0.out)).mono ?_
              rintro e w1 ⟨rfl, rfl⟩
              go_wp2_with fail
              refine (HT.out _ ⟨HA.out.1.below HB0.out, HA.out.2⟩ ⟨HB.out.1.below HB0.out, HB.out.2⟩).mono ?_
              rintro e w2 ⟨rfl, hb2⟩
              have HB2 := Lib.hid (HB0.out.trans (hb2.mono HB0.out.size))
              clear hb2
              go_wp2_with fail
              refine (HAp.out _ ⟨HA.out.1.below HB2.out, HA.out.2⟩ ⟨HB.out.1.below HB2.out, HB.out.2⟩).mono ?_
              rintro e w3 ⟨rfl, hb3⟩
              have HB3 := Lib.hid (HB2.out.trans (hb3.mono HB2.out.size))
              have HK3 := Lib.hid hb3
              clear hb3
              go_wp2_with fail
              refine (HR1.out _ (HA.out.1.below HB3.out)).mono ?_
              rintro e w4 ⟨rfl, hb4⟩
              have HB4 := Lib.hid (HB3.out.trans (hb4.mono HB3.out.size))
              have HK4 := Lib.hid (HK3.out.trans (hb4.mono HK3.out.size))
              clear hb4
              go_wp2_with fail
              refine (HR2.out _ (HB.out.1.below HB4.out)).mono ?_
              rintro e w5 ⟨rfl, hb5⟩
              have HB5 := Lib.hid (HB4.out.trans (hb5.mono HB4.out.size))
              have HK5 := Lib.hid (HK4.out.trans (hb5.mono HK4.out.size))
              clear hb5
              go_wp2_with fail
              refine (HRA.out _ (HA.out.1.below HB5.out) (HB.out.1.below HB5.out)).mono ?_
              rintro e w6 ⟨rfl, hb6⟩
              have HB6 := Lib.hid (HB5.out.trans (hb6.mono HB5.out.size))
              have HK6 := Lib.hid (HK5.out.trans (hb6.mono HK5.out.size))
              clear hb6
              go_wp2_with fail
              refine (HRT.out _ (HA.out.1.below HB6.out) (HB.out.1.below HB6.out)).mono ?_
              rintro e w7 ⟨rfl, hb7⟩
              have HB7 := Lib.hid (HB6.out.trans (hb7.mono HB6.out.size))
              have HK7 := Lib.hid (HK6.out.trans (hb7.mono HK6.out.size))
              clear hb7
              go_wp2_with fail
              go_ret
              exact ⟨rfl, HB7.out⟩
          | some o =>
            rw [ho] at HT HRT
            have hro := hright o ho
            have hlo := hlen o ho
            have HS := Lib.hid (fun (u v : Value) (w' : World) (h1 : RdC w' u o) (h2 : RdC w' v o) => rSameC_any o o u v w' h1 h2 (by omega) (fun c hc => by rw [hro.len c hc]; omega))
            rw [eqL_true rfl] at HS
            have HRo := Lib.hid (fun (u : Value) (w' : World) (h1 : RdC w' u o) => eRight_any n' o u w' h1 (by omega) hro.ok)
            rw [rt_rightL n1 n16 hro] at HRo
            cases hap : apartL a b with
            | true =>
              obtain ⟨o', q1, q2⟩ := hturn hap
              obtain rfl : o = o' := by rw [ho] at q1; injection q1 with q1
              rw [q2] at HTB
              rw [hap] at HAp HRA
              clear hturn hright hlen ho ra rb r1 r2 e' oa ob pa pb la lb n1 n16 hro hlo hap q1 q2
              go_enter Try.func9, Try.ntmps9
              go_wp2_with fail
              refine (awake_any _).mono ?_
              rintro e w0 ⟨rfl, hb0⟩
              have HB0 := Lib.hid hb0
              clear hb0
              go_wp2_with fail
              refine (HH1.out _ (HA.out.1.below HB0.out)).mono ?_
              rintro e w1 ⟨rfl, rfl⟩
              go_wp2_with fail
              refine (HH2.out _ (HB.out.1.below HB0.out)).mono ?_
              rintro e w1 ⟨rfl, rfl⟩
              go_wp2_with fail
              refine (HT.out _ ⟨HA.out.1.below HB0.out, HA.out.2⟩ ⟨HB.out.1.below HB0.out, HB.out.2⟩).mono ?_
              rintro e w2 ⟨⟨A2, c2, rfl, hx2, hc2⟩, hb2⟩
              have HB2 := Lib.hid (HB0.out.trans (hb2.mono HB0.out.size))
              have HX2 := Lib.hid (And.intro hx2 hc2)
              clear hx2 hc2
              clear hb2
              go_wp2_with fail
              refine (HAp.out _ ⟨HA.out.1.below HB2.out, HA.out.2⟩ ⟨HB.out.1.below HB2.out, HB.out.2⟩).mono ?_
              rintro e w3 ⟨rfl, hb3⟩
              have HB3 := Lib.hid (HB2.out.trans (hb3.mono HB2.out.size))
              have HK3 := Lib.hid hb3
              clear hb3
              go_wp2_with fail
              refine (HR1.out _ (HA.out.1.below HB3.out)).mono ?_
              rintro e w4 ⟨rfl, hb4⟩
              have HB4 := Lib.hid (HB3.out.trans (hb4.mono HB3.out.size))
              have HK4 := Lib.hid (HK3.out.trans (hb4.mono HK3.out.size))
              clear hb4
              go_wp2_with fail
              refine (HR2.out _ (HB.out.1.below HB4.out)).mono ?_
              rintro e w5 ⟨rfl, hb5⟩
              have HB5 := Lib.hid (HB4.out.trans (hb5.mono HB4.out.size))
              have HK5 := Lib.hid (HK4.out.trans (hb5.mono HK4.out.size))
              clear hb5
              go_wp2_with fail
              refine (HRA.out _ (HA.out.1.below HB5.out) (HB.out.1.below HB5.out)).mono ?_
              rintro e w6 ⟨rfl, hb6⟩
              have HB6 := Lib.hid (HB5.out.trans (hb6.mono HB5.out.size))
              have HK6 := Lib.hid (HK5.out.trans (hb6.mono HK5.out.size))
              clear hb6
              go_wp2_with fail
              refine (HRT.out _ (HA.out.1.below HB6.out) (HB.out.1.below HB6.out)).mono ?_
              rintro e w7 ⟨⟨v7, rfl, hx7, hc7⟩, hb7⟩
              have HB7 := Lib.hid (HB6.out.trans (hb7.mono HB6.out.size))
              obtain ⟨A7, c7, rfl, hy7⟩ := hx7
              have HX7 := Lib.hid (show RdC w7 (.slice A7 o.length c7) o from ⟨A7, c7, rfl, hy7⟩)
              clear hy7 hc7
              have HK7 := Lib.hid (HK6.out.trans (hb7.mono HK6.out.size))
              clear hb7
              go_wp2_with fail
              refine (HTB.out _ ⟨HB.out.1.below HB7.out, HB.out.2⟩ ⟨HA.out.1.below HB7.out, HA.out.2⟩).mono ?_
              rintro e w8 ⟨⟨A8, c8, rfl, hx8, hc8⟩, hb8⟩
              have HB8 := Lib.hid (HB7.out.trans (hb8.mono HB7.out.size))
              have HX8 := Lib.hid (And.intro hx8 hc8)
              clear hx8 hc8
              have HK8 := Lib.hid (HK7.out.trans (hb8.mono HK7.out.size))
              have HJ8 := Lib.hid hb8
              clear hb8
              go_wp2_with fail
              refine (HS.out _ _ _ (HX2.out.1.below HK8.out) HX8.out.1).mono ?_
              rintro e w9 ⟨rfl, n9, rfl⟩
              have hb8 := HB8.out
              go_wp2_with fail
              refine (HS.out _ _ _ (HX2.out.1.below (below_drewN' HK8.out _)) (HX7.out.below (below_drewN' HJ8.out _))).mono ?_
              rintro e w9 ⟨rfl, m9, rfl⟩
              go_wp2_with fail
              refine (HRo.out _ _ (HX2.out.1.below (below_drewN' HK8.out _))).mono ?_
              rintro e w10 ⟨rfl, hb10⟩
              have HB10 := Lib.hid ((below_drewN' HB8.out _).trans (hb10.mono HB8.out.size))
              clear hb10
              go_wp2_with fail
              go_ret
              exact ⟨rfl, HB10.out⟩
            | false =>
              rw [hap] at HAp HRA
              cases hob : thenL b a with
              | none =>
                rw [hob] at HTB
                clear hturn hright hlen ho ra rb r1 r2 e' oa ob pa pb la lb n1 n16 hro hlo hap hob
                go_enter Try.func9, Try.ntmps9
                go_wp2_with fail
                refine (awake_any _).mono ?_
                rintro e w0 ⟨rfl, hb0⟩
                have HB0 := Lib.hid hb0
                clear hb0
                go_wp2_with fail
                refine (HH1.out _ (HA.out.1.below HB0.out)).mono ?_
                rintro e w1 ⟨rfl, rfl⟩
                go_wp2_with fail
                refine (HH2.out _ (HB.out.1.below HB0.out)).mono ?_
                rintro e w1 ⟨rfl, rfl⟩
                go_wp2_with fail
                refine (HT.out _ ⟨HA.out.1.below HB0.out, HA.out.2⟩ ⟨HB.out.1.below HB0.out, HB.out.2⟩).mono ?_
                rintro e w2 ⟨⟨A2, c2, rfl, hx2, hc2⟩, hb2⟩
                have HB2 := Lib.hid (HB0.out.trans (hb2.mono HB0.out.size))
                have HX2 := Lib.hid (And.intro hx2 hc2)
                clear hx2 hc2
                clear hb2
                go_wp2_with fail
                refine (HAp.out _ ⟨HA.out.1.below HB2.out, HA.out.2⟩ ⟨HB.out.1.below HB2.out, HB.out.2⟩).mono ?_
                rintro e w3 ⟨rfl, hb3⟩
                have HB3 := Lib.hid (HB2.out.trans (hb3.mono HB2.out.size))
                have HK3 := Lib.hid hb3
                clear hb3
                go_wp2_with fail
                refine (HR1.out _ (HA.out.1.below HB3.out)).mono ?_
                rintro e w4 ⟨rfl, hb4⟩
                have HB4 := Lib.hid (HB3.out.trans (hb4.mono HB3.out.size))
                have HK4 := Lib.hid (HK3.out.trans (hb4.mono HK3.out.size))
                clear hb4
                go_wp2_with fail
                refine (HR2.out _ (HB.out.1.below HB4.out)).mono ?_
                rintro e w5 ⟨rfl, hb5⟩
                have HB5 := Lib.hid (HB4.out.trans (hb5.mono HB4.out.size))
                have HK5 := Lib.hid (HK4.out.trans (hb5.mono HK4.out.size))
                clear hb5
                go_wp2_with fail
                refine (HRA.out _ (HA.out.1.below HB5.out) (HB.out.1.below HB5.out)).mono ?_
                rintro e w6 ⟨rfl, hb6⟩
                have HB6 := Lib.hid (HB5.out.trans (hb6.mono HB5.out.size))
                have HK6 := Lib.hid (HK5.out.trans (hb6.mono HK5.out.size))
                clear hb6
                go_wp2_with fail
                refine (HRT.out _ (HA.out.1.below HB6.out) (HB.out.1.below HB6.out)).mono ?_
                rintro e w7 ⟨⟨v7, rfl, hx7, hc7⟩, hb7⟩
                have HB7 := Lib.hid (HB6.out.trans (hb7.mono HB6.out.size))
                obtain ⟨A7, c7, rfl, hy7⟩ := hx7
                have HX7 := Lib.hid (show RdC w7 (.slice A7 o.length c7) o from ⟨A7, c7, rfl, hy7⟩)
                clear hy7 hc7
                have HK7 := Lib.hid (HK6.out.trans (hb7.mono HK6.out.size))
                clear hb7
                go_wp2_with fail
                refine (HTB.out _ ⟨HB.out.1.below HB7.out, HB.out.2⟩ ⟨HA.out.1.below HB7.out, HA.out.2⟩).mono ?_
                rintro e w8 ⟨rfl, hb8⟩
                have HB8 := Lib.hid (HB7.out.trans (hb8.mono HB7.out.size))
                have HK8 := Lib.hid (HK7.out.trans (hb8.mono HK7.out.size))
                have HJ8 := Lib.hid hb8
                clear hb8
                go_wp2_with fail
                have hb8 := HB8.out
                refine (HS.out _ _ _ (HX2.out.1.below HK8.out) (HX7.out.below HJ8.out)).mono ?_
                rintro e w9 ⟨rfl, m9, rfl⟩
                go_wp2_with fail
                refine (HRo.out _ _ (HX2.out.1.below (below_drewN' HK8.out _))).mono ?_
                rintro e w10 ⟨rfl, hb10⟩
                have HB10 := Lib.hid ((below_drewN' HB8.out _).trans (hb10.mono HB8.out.size))
                clear hb10
                go_wp2_with fail
                go_ret
                exact ⟨rfl, HB10.out⟩
              | some o2 =>
                rw [hob] at HTB
                clear hturn hright hlen ho ra rb r1 r2 e' oa ob pa pb la lb n1 n16 hro hlo hap hob
                go_enter Try.func9, Try.ntmps9
                go_wp2_with fail
                refine (awake_any _).mono ?_
                rintro e w0 ⟨rfl, hb0⟩
                have HB0 := Lib.hid hb0
                clear hb0
                go_wp2_with fail
                refine (HH1.out _ (HA.out.1.below HB0.out)).mono ?_
                rintro e w1 ⟨rfl, rfl⟩
                go_wp2_with fail
                refine (HH2.out _ (HB.out.1.below HB0.out)).mono ?_
                rintro e w1 ⟨rfl, rfl⟩
                go_wp2_with fail
                refine (HT.out _ ⟨HA.out.1.below HB0.out, HA.out.2⟩ ⟨HB.out.1.below HB0.out, HB.out.2⟩).mono ?_
                rintro e w2 ⟨⟨A2, c2, rfl, hx2, hc2⟩, hb2⟩
                have HB2 := Lib.hid (HB0.out.trans (hb2.mono HB0.out.size))
                have HX2 := Lib.hid (And.intro hx2 hc2)
                clear hx2 hc2
                clear hb2
                go_wp2_with fail
                refine (HAp.out _ ⟨HA.out.1.below HB2.out, HA.out.2⟩ ⟨HB.out.1.below HB2.out, HB.out.2⟩).mono ?_
                rintro e w3 ⟨rfl, hb3⟩
                have HB3 := Lib.hid (HB2.out.trans (hb3.mono HB2.out.size))
                have HK3 := Lib.hid hb3
                clear hb3
                go_wp2_with fail
                refine (HR1.out _ (HA.out.1.below HB3.out)).mono ?_
                rintro e w4 ⟨rfl, hb4⟩
                have HB4 := Lib.hid (HB3.out.trans (hb4.mono HB3.out.size))
                have HK4 := Lib.hid (HK3.out.trans (hb4.mono HK3.out.size))
                clear hb4
                go_wp2_with fail
                refine (HR2.out _ (HB.out.1.below HB4.out)).mono ?_
                rintro e w5 ⟨rfl, hb5⟩
                have HB5 := Lib.hid (HB4.out.trans (hb5.mono HB4.out.size))
                have HK5 := Lib.hid (HK4.out.trans (hb5.mono HK4.out.size))
                clear hb5
                go_wp2_with fail
                refine (HRA.out _ (HA.out.1.below HB5.out) (HB.out.1.below HB5.out)).mono ?_
                rintro e w6 ⟨rfl, hb6⟩
                have HB6 := Lib.hid (HB5.out.trans (hb6.mono HB5.out.size))
                have HK6 := Lib.hid (HK5.out.trans (hb6.mono HK5.out.size))
                clear hb6
                go_wp2_with fail
                refine (HRT.out _ (HA.out.1.below HB6.out) (HB.out.1.below HB6.out)).mono ?_
                rintro e w7 ⟨⟨v7, rfl, hx7, hc7⟩, hb7⟩
                have HB7 := Lib.hid (HB6.out.trans (hb7.mono HB6.out.size))
                obtain ⟨A7, c7, rfl, hy7⟩ := hx7
                have HX7 := Lib.hid (show RdC w7 (.slice A7 o.length c7) o from ⟨A7, c7, rfl, hy7⟩)
                clear hy7 hc7
                have HK7 := Lib.hid (HK6.out.trans (hb7.mono HK6.out.size))
                clear hb7
                go_wp2_with fail
                refine (HTB.out _ ⟨HB.out.1.below HB7.out, HB.out.2⟩ ⟨HA.out.1.below HB7.out, HA.out.2⟩).mono ?_
                rintro e w8 ⟨⟨A8, c8, rfl, hx8, hc8⟩, hb8⟩
                have HB8 := Lib.hid (HB7.out.trans (hb8.mono HB7.out.size))
                clear hx8 hc8
                have HK8 := Lib.hid (HK7.out.trans (hb8.mono HK7.out.size))
                have HJ8 := Lib.hid hb8
                clear hb8
                go_wp2_with fail
                have hb8 := HB8.out
                refine (HS.out _ _ _ (HX2.out.1.below HK8.out) (HX7.out.below HJ8.out)).mono ?_
                rintro e w9 ⟨rfl, m9, rfl⟩
                go_wp2_with fail
                refine (HRo.out _ _ (HX2.out.1.below (below_drewN' HK8.out _))).mono ?_
                rintro e w10 ⟨rfl, hb10⟩
                have HB10 := Lib.hid ((below_drewN' HB8.out _).trans (hb10.mono HB8.out.size))
                clear hb10
                go_wp2_with fail
                go_ret
                exact ⟨rfl, HB10.out⟩
end Go.Proofs.Ytlmgabhdeeehmaa
