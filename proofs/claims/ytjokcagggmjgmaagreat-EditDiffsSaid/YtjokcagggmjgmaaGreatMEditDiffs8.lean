/-
  Texts that the proof of EditDiffs leans on, part 8: contracts of functions, and plain laws.
-/
import Derived.Test.YtjokcagggmjgmaaGreatMEditDiffs7
import Derived.Laws.EntriesVeiled
import Derived.Deep.Slices
import Derived.Deep.Fields
import Derived.ChangeSame
import Derived.ProofKit
import Derived.OpenShut
/-! EditA -/
namespace Go.Proofs.YtjokcagggmjgmaaGreat
open Go.RowKit
set_option linter.unusedVariables false
set_option linter.unusedSimpArgs false

/-- what edit.Then hands back -/
def ThenQ (W : World) (r : Bool) (o : Option (List Ch)) (e : Ending) (w' : World) : Prop :=
  (match r, o with
  | false, _ => e = .returned (.tuple #[.slice none 0 0, .int .i64 9])
  | true, none => e = .returned (.tuple #[.slice none 0 0, .int .i64 7])
  | true, some l => ∃ A c, e = .returned (.tuple #[.slice A l.length c, .int .i64 0]) ∧ RdC w' (.slice A l.length c) l ∧ CapOk (.slice A l.length c)) ∧ Below W.heap.size W w'

theorem tell_any (W : World) (B : Nat) (a b : List Ch) (n : Nat) (ra : Rt n a) (rb : Rt n b) (n1 : 1 ≤ n) (n16 : n ≤ 16) (hW : W.heap.size ≤ B) (d : List (Option Ch × Option Ch)) (p : Option Ch × Option Ch) (px py : Value) (w : World)
    (hi : InvT W B (d.filterMap combC) w) (hx : PtrC w px p.1) (hy : PtrC w py p.2) (ha : ∀ x, p.1 = some x → x ∈ a) (hb : ∀ y, p.2 = some y → y ∈ b) (hd : d.length ≤ 1000) (hp : p ≠ (none, none)) :
    Calls Tryz.prog 90 #[px, py, .pointer (some ⟨B, 0, none⟩)] w fun e w' => e = .returned (.bool (fitC p)) ∧ (fitC p = true → InvT W B ((d ++ [p]).filterMap combC) w') ∧ Below W.heap.size W w' := by
  have hl : (d.filterMap combC).length ≤ 10000 := Nat.le_trans (List.length_filterMap_le _ _) (by omega)
  obtain ⟨p1, p2⟩ := p
  cases p1 with
  | none =>
    cases p2 with
    | none => exact absurd rfl hp
    | some y =>
      obtain rfl : px = .pointer none := hx
      have hm := hb y rfl
      refine (tellY W w B _ y py hW hi hy (by rw [rb.len y hm]; exact n1) (by rw [rb.len y hm]; omega) hl).mono fun e w' ⟨h1, h2⟩ => ⟨h1, fun _ => ?_, h2.bel⟩
      rw [List.filterMap_append]; exact h2
  | some x =>
    have hm := ha x rfl
    cases p2 with
    | none =>
      obtain rfl : py = .pointer none := hy
      refine (tellX W w B _ x px hW hi hx (by rw [ra.len x hm]; exact n1) (by rw [ra.len x hm]; omega) hl).mono fun e w' ⟨h1, h2⟩ => ⟨h1, fun _ => ?_, h2.bel⟩
      rw [List.filterMap_append]; exact h2
    | some y =>
      refine (tellXY W w B _ x y px py hW hi hx hy (by rw [ra.len x hm]; exact n1) (by rw [ra.len x hm]; omega) hl).mono fun e w' ⟨h1, h2, h3⟩ => ⟨h1, fun h => ?_, h3⟩
      have := h2 h
      rw [List.filterMap_append]
      cases hc : combC (some x, some y) with
      | none => rw [hc] at this; simpa [hc] using this
      | some z => rw [hc] at this; simpa [hc] using this

set_option maxRecDepth 8000 in
set_option maxHeartbeats 1000000 in
theorem eThen_any (k : Int) (a b : List Ch) (va vb : Value) (w : World) (ha : RdC w va a ∧ CapOk va) (hb : RdC w vb b ∧ CapOk vb) (na : a.length ≤ 400) (nb : b.length ≤ 400) (oa : OkC a) (ob : OkC b) :
    Calls Tryz.prog 49 #[.int .i64 k, va, vb] w fun e w' => ThenQ w (rightL k a && rightL k b) (thenL a b) e w' := by
  have H1 := Lib.hid (eRight_any k a va w ha.1 (by omega) oa)
  have H2 := Lib.hid (fun (w' : World) (h : RdC w' vb b) => eRight_any k b vb w' h (by omega) ob)
  have HR := Lib.hid (And.intro ha hb)
  have HO := Lib.hid (And.intro oa (And.intro ob (And.intro na nb)))
  clear ha hb na nb oa ob
  cases r1 : rightL k a with
  | false =>
    rw [r1] at H1
    clear r1 H2 HO
    go_enter Tryz.func49, Tryz.ntmps49
    go_wp2_with fail
    refine H1.out.mono ?_
    rintro e w1 ⟨rfl, hb1⟩
    go_wp2_with fail
    go_ret2
    exact ⟨rfl, hb1⟩
  | true =>
    rw [r1] at H1
    cases r2 : rightL k b with
    | false =>
      rw [r2] at H2
      clear r1 r2 HO
      go_enter Tryz.func49, Tryz.ntmps49
      go_wp2_with fail
      refine H1.out.mono ?_
      rintro e w1 ⟨rfl, hb1⟩
      have HB1 := Lib.hid hb1
      clear hb1
      go_wp2_with fail
      refine (H2.out _ (HR.out.2.1.below HB1.out)).mono ?_
      rintro e w2 ⟨rfl, hb2⟩
      have HB2 := Lib.hid (HB1.out.trans (hb2.mono HB1.out.size))
      clear hb2
      go_wp2_with fail
      go_ret2
      exact ⟨rfl, HB2.out⟩
    | true =>
      rw [r2] at H2
      obtain ⟨n, rfl, n1, n16, ra⟩ := rightL_rt HO.out.1 r1
      obtain ⟨n', e', _, _, rb⟩ := rightL_rt HO.out.2.1 r2
      obtain rfl : n' = n := by omega
      have HP := Lib.hid (fun (B : Nat) (w' : World) (hB : w.heap.size ≤ B) (hi : InvT w B [] w') => pairs_any w w' 90 #[.pointer (some ⟨B, 0, none⟩)] fitC (fun d w'' => InvT w B (d.filterMap combC) w'') a b va vb n' ra rb ⟨n1, n16⟩ (by have := HO.out.2.2; omega) (enters_func Tryz.func90 (by kernel_rfl) (by kernel_rfl))
        (fun d p px py w2 h1 _ hx hy h2 h3 h4 h5 => tell_any w B a b n' ra rb n1 n16 hB d p px py w2 h1 hx hy h2 h3 h4 h5) (fun d w2 m ⟨vo, q1, q2, q3⟩ => ⟨vo, q1, (q2.below (drewN_below w2 m)).mono fun u p h => h.below (drewN_below w2 m), Bdrew q3 m⟩) hi hi.bel HR.out.1 HR.out.2)
      have HL := Lib.hid (show thenL a b = if (pairs a b).all fitC then some ((pairs a b).filterMap combC) else none from rfl)
      clear ra rb r1 r2 e' n1 n16
      go_enter Tryz.func49, Tryz.ntmps49
      go_wp2_with fail
      refine H1.out.mono ?_
      rintro e w1 ⟨rfl, hb1⟩
      have HB1 := Lib.hid hb1
      clear hb1
      go_wp2_with fail
      refine (H2.out _ (HR.out.2.1.below HB1.out)).mono ?_
      rintro e w2 ⟨rfl, hb2⟩
      have HB2 := Lib.hid (HB1.out.trans (hb2.mono HB1.out.size))
      clear hb2
      go_wp2_with fail
      refine (HP.out _ _ HB2.out.size ⟨.slice none 0 0, heap_alloc_new _ _, OwnC.nil _ _ _, below_alloc' HB2.out _⟩).mono ?_
      rintro e w3 ⟨rfl, hi3, hb3⟩
      have HI3 := Lib.hid (And.intro hi3 hb3)
      clear hi3 hb3
      cases hall : (pairs a b).all fitC with
      | false =>
        rw [hall] at HL
        clear hall
        go_wp2_with fail
        go_ret2
        rw [show thenL a b = none from HL.out]
        exact ⟨rfl, HI3.out.2⟩
      | true =>
        rw [hall] at HL
        obtain ⟨vo, q1, q2, q3⟩ := HI3.out.1 hall
        obtain ⟨r1, r2⟩ := q2.rd fun u p h => h.rd
        have c1 := cell_of_one q1
        obtain ⟨A, c, rfl, hx⟩ := r1
        have HRes := Lib.hid (And.intro (show RdC w3 (.slice A ((pairs a b).filterMap combC).length c) ((pairs a b).filterMap combC) from ⟨A, c, rfl, hx⟩) r2)
        clear hall q1 q2 q3 hx r2
        go_wp2_with fail
        go_ret2
        rw [show thenL a b = some ((pairs a b).filterMap combC) from HL.out]
        exact ⟨⟨A, c, rfl, HRes.out.1, HRes.out.2⟩, HI3.out.2⟩
end Go.Proofs.YtjokcagggmjgmaaGreat
/-! SameE -/
namespace Go.Proofs.YtjokcagggmjgmaaGreat
open Go.RowKit
set_option linter.unusedVariables false
set_option linter.unusedSimpArgs false

/-- the same changes? -/
noncomputable def eqL (l m : List Ch) : Bool := @decide (l = m) (Classical.propDecidable _)
theorem eqL_true {l m : List Ch} (h : l = m) : eqL l m = true := by unfold eqL; exact @decide_eq_true _ (Classical.propDecidable _) h
theorem eqL_false {l m : List Ch} (h : l ≠ m) : eqL l m = false := by unfold eqL; exact @decide_eq_false _ (Classical.propDecidable _) h
theorem eqL_at {l m : List Ch} {j : Nat} (h1 : j < l.length) (h2 : j < m.length) (h : l[j] ≠ m[j]) : eqL l m = false := eqL_false fun e => by subst e; exact h rfl


theorem quiet_more {P : Program} {f : FuncId} {args : Array Value} {w : World} {n x : Nat} {v : Value}
    (h : Calls P f args (w.drewN (n + x)) fun e w'' => e = .returned v ∧ ∃ m, w'' = (w.drewN (n + x)).drewN m) : Calls P f args (w.drewN (n + x)) fun e w'' => e = .returned v ∧ ∃ m, w'' = w.drewN (n + m) :=
  h.mono fun e w' ⟨h1, q, h2⟩ => ⟨h1, x + q, by rw [h2, World.drewN_drewN, Nat.add_assoc]⟩

set_option maxRecDepth 100000 in
set_option maxHeartbeats 8000000 in
theorem rSameC_any (l m : List Ch) (va vb : Value) (w : World) (ha : RdC w va l) (hb : RdC w vb m) (hn : l.length ≤ 1000) (h40 : ∀ c ∈ l, c.p.length ≤ 40) :
    Calls Tryz.prog 19 #[va, vb] w fun e w' => e = .returned (.bool (eqL l m)) ∧ ∃ n, w' = w.drewN n := by
  obtain ⟨A, c, rfl, ga0⟩ := ha
  obtain ⟨B, d, rfl, gb0⟩ := hb
  have HD := Lib.hid (And.intro hn h40)
  clear hn h40
  by_cases hlm : l.length = m.length
  · have hne : ((l.length : Int) != (m.length : Int)) = false := by simp [hlm]
    have HL := Lib.hid hlm
    have HGA := Lib.hid ga0
    have HGB := Lib.hid gb0
    clear hlm ga0 gb0
    go_enter Tryz.func19, Tryz.ntmps19
    go_wp2_with fail
    go_loopw [5] (fun i wr => ∃ (j n : Nat), j ≤ l.length ∧ i = .int .i64 j ∧ l.take j = m.take j ∧ wr = w.drewN n) (fun i _ => l.length - (intOf i).toNat)
    case atStart => exact ⟨0, 0, Nat.zero_le _, rfl, rfl, rfl⟩
    case round =>
      obtain ⟨j, n, hj, rfl, htk, rfl⟩ := hrel
      by_cases hlt : j < l.length
      · have hmt : j < m.length := by have := HL.out; omega
        have h3 : (j : Int) < l.length := by omega
        have h4 : (j : Int) < m.length := by omega
        have h5 : (0 : Int) ≤ (j : Int) := by omega
        obtain ⟨bk, ofs, rfl, ga⟩ := HGA.out (by omega)
        obtain ⟨bk2, ofs2, rfl, gb⟩ := HGB.out (by omega)
        obtain ⟨v0, k0, hv0, k1, k2, k3, k4⟩ := ga j hlt
        obtain ⟨w0, m0, hw0, m1, m2, m3, m4⟩ := gb j hmt
        have HS := Lib.hid (fun (w' : World) (h1 : RdU w' v0 (pti l[j].p)) (h2 : RdU w' w0 (pti m[j].p)) => Same_any _ _ _ _ w' h1 h2 (by unfold pti; rw [List.length_map]; have := HD.out.2 _ (List.getElem_mem hlt); omega))
        rw [pti_inj] at HS
        have HV := Lib.hid (And.intro hv0 hw0)
        have HW := Lib.hid (show wrap64 ((j : Int) + 1) = ((j + 1 : Nat) : Int) by have := HD.out.1; unfold wrap64; omega)
        have HN := Lib.hid (show l[j] = m[j] → l.take (j + 1) = m.take (j + 1) from fun h => by rw [← List.take_append_getElem hlt, ← List.take_append_getElem hmt, htk, h])
        have HF := Lib.hid (show l[j] ≠ m[j] → eqL l m = false from eqL_at hlt hmt)
        obtain ⟨A0, cc, rfl, hx0⟩ := RdU.point hv0
        obtain ⟨A1, cd, rfl, hx1⟩ := RdU.point hw0
        clear ga gb hv0 hw0 hx0 hx1 htk
        generalize l[j] = x at *
        generalize m[j] = y at *
        obtain ⟨xp, xhad, xhas, xold, xnew⟩ := x
        obtain ⟨yp, yhad, yhas, yold, ynew⟩ := y
        simp only at k0 k1 k2 k3 k4 m0 m1 m2 m3 m4
        simp only at HS HV
        have hb0 : Below w.heap.size w (w.drewN n) := drewN_below _ _
        obtain ⟨b3, e3⟩ : ∃ b, ((xold : Int) != (yold : Int)) = b := ⟨_, rfl⟩
        obtain ⟨b4, e4⟩ : ∃ b, ((xnew : Int) != (ynew : Int)) = b := ⟨_, rfl⟩
        obtain ⟨b5, e5⟩ : ∃ b, decide (xp = yp) = b := ⟨_, rfl⟩
        rw [e5] at HS
        have HE := Lib.hid (And.intro e3 (And.intro e4 e5))
        clear e5
        have hcase : xhad = yhad ∨ (xhad = false ∧ yhad = true) ∨ (xhad = true ∧ yhad = false) := by cases xhad <;> cases yhad <;> simp
        rcases hcase with hq | hq | hq
        rotate_left
        · obtain ⟨rfl, rfl⟩ := hq
          have HF2 := Lib.hid (HF.out (by intro h; injection h with a1 a2 a3 a4 a5; cases a2))
          clear HN HF
          go_wp2_with fail
          go_quiet (fail)
          go_wp2_with fail
          go_ret
          exact ⟨by rw [HF2.out] <;> rfl, _, by first | rfl | exact World.drewN_drewN ..⟩
        · obtain ⟨rfl, rfl⟩ := hq
          have HF2 := Lib.hid (HF.out (by intro h; injection h with a1 a2 a3 a4 a5; cases a2))
          clear HN HF
          go_wp2_with fail
          go_quiet (fail)
          go_wp2_with fail
          go_ret
          exact ⟨by rw [HF2.out] <;> rfl, _, by first | rfl | exact World.drewN_drewN ..⟩
        · have hcase : xhas = yhas ∨ (xhas = false ∧ yhas = true) ∨ (xhas = true ∧ yhas = false) := by cases xhas <;> cases yhas <;> simp
          have HQ := Lib.hid hq
          rcases hcase with hr | hr | hr
          rotate_left
          · obtain ⟨rfl, rfl⟩ := hr
            subst hq
            cases xhad
            all_goals
              have HF2 := Lib.hid (HF.out (by intro h; injection h with a1 a2 a3 a4 a5; cases a3))
              clear HN HF
              go_wp2_with fail
              go_quiet (fail)
              go_wp2_with fail
              go_ret
              exact ⟨by rw [HF2.out] <;> rfl, _, by first | rfl | exact World.drewN_drewN ..⟩
          · obtain ⟨rfl, rfl⟩ := hr
            subst hq
            cases xhad
            all_goals
              have HF2 := Lib.hid (HF.out (by intro h; injection h with a1 a2 a3 a4 a5; cases a3))
              clear HN HF
              go_wp2_with fail
              go_quiet (fail)
              go_wp2_with fail
              go_ret
              exact ⟨by rw [HF2.out] <;> rfl, _, by first | rfl | exact World.drewN_drewN ..⟩
          · subst hq hr
            clear HQ
            cases b3 with
            | true =>
              cases xhad <;> cases xhas
              all_goals
                have HF2 := Lib.hid (HF.out (by intro h; injection h with a1 a2 a3 a4 a5; have := HE.out.1; rw [show xold = yold from by first | exact a4 | exact_mod_cast a4] at this; simp at this))
                clear HN HF
                go_wp2_with fail
                go_quiet (fail)
                go_wp2_with fail
                go_ret
                exact ⟨by rw [HF2.out] <;> rfl, _, by first | rfl | exact World.drewN_drewN ..⟩
            | false =>
              cases b4 with
              | true =>
                cases xhad <;> cases xhas
                all_goals
                  have HF2 := Lib.hid (HF.out (by intro h; injection h with a1 a2 a3 a4 a5; have := HE.out.2.1; rw [show xnew = ynew from by first | exact a5 | exact_mod_cast a5] at this; simp at this))
                  clear HN HF
                  go_wp2_with fail
                  go_quiet (fail)
                  go_wp2_with fail
                  go_ret
                  exact ⟨by rw [HF2.out] <;> rfl, _, by first | rfl | exact World.drewN_drewN ..⟩
              | false =>
                cases b5 with
                | false =>
                  cases xhad <;> cases xhas
                  all_goals
                    have HF2 := Lib.hid (HF.out (by intro h; injection h with a1 a2 a3 a4 a5; have := HE.out.2.2; rw [a1] at this; simp at this))
                    clear HN HF
                    go_wp2_with fail
                    go_quiet ((go_at_call 59; exact quiet_more (HS.out _ (RdU.drewN HV.out.1 _) (RdU.drewN HV.out.2 _))))
                    go_wp2_with fail
                    go_ret
                    exact ⟨by rw [HF2.out] <;> rfl, _, by first | rfl | exact World.drewN_drewN ..⟩
                | true =>
                  have h1 : xold = yold := by have := HE.out.1; simp only [bne_eq_false_iff_eq] at this; omega
                  have h2 : xnew = ynew := by have := HE.out.2.1; simp only [bne_eq_false_iff_eq] at this; omega
                  have h6 : xp = yp := by have := HE.out.2.2; simpa using this
                  have HN2 := Lib.hid (HN.out (by rw [h1, h2, h6]))
                  clear h1 h2 h6 HN HF HE
                  cases xhad <;> cases xhas
                  all_goals
                    go_wp2_with fail
                    go_quiet ((go_at_call 59; exact quiet_more (HS.out _ (RdU.drewN HV.out.1 _) (RdU.drewN HV.out.2 _))))
                    go_wp2_with fail
                    go_roundw
                    case rel => exact ⟨j + 1, _, by omega, by first | rw [HW.out] | exact congrArg (Value.int .i64) (by omega), HN2.out, by first | rfl | exact World.drewN_drewN ..⟩
                    case measure => first | (rw [intOf_of' HW.out, intOf_of' rfl]; omega) | (rw [intOf_of' rfl, intOf_of' rfl]; omega)
      · have HA := Lib.hid (show eqL l m = true from eqL_true (by rw [List.take_of_length_le (by omega), List.take_of_length_le (by have := HL.out; omega)] at htk; exact htk))
        clear htk
        go_wp2_with fail
        go_ret
        exact ⟨by rw [HA.out] <;> rfl, _, rfl⟩
  · have hne : ((l.length : Int) != (m.length : Int)) = true := by simp; omega
    have HF := Lib.hid (show eqL l m = false from eqL_false fun h => hlm (by rw [h]))
    clear hlm ga0 gb0
    go_enter Tryz.func19, Tryz.ntmps19
    go_wp2_with fail
    go_ret
    exact ⟨by rw [HF.out] <;> rfl, 0, rfl⟩
end Go.Proofs.YtjokcagggmjgmaaGreat
/-! LawEdit -/
namespace Go.Proofs.YtjokcagggmjgmaaGreat
open Go.RowKit
set_option linter.unusedVariables false
set_option linter.unusedSimpArgs false

theorem RdC.one {w : World} {b cc : Nat} {c : Ch} (h : ChAt w b 0 c) : RdC w (.slice (some ⟨b, 0, none⟩) 1 cc) [c] :=
  ⟨_, cc, rfl, fun _ => ⟨b, 0, rfl, fun j hj => by
    obtain rfl : j = 0 := by simp at hj; omega
    simpa using h⟩⟩
theorem CapOk.one (b : Nat) : CapOk (.slice (some ⟨b, 0, none⟩) 1 1) := ⟨_, 1, 1, rfl, Nat.le_refl _, by simp [maxLen], fun _ => ⟨_, _, rfl⟩⟩
def xp4 : List Nat := [4, 0]
def xa : List Ch := [⟨xp4, false, true, 0, 3⟩]
def xb : List Ch := [⟨xp4, true, true, 3, 5⟩]
def xx : List Ch := [⟨xp4, false, true, 0, 5⟩]
def xc : List Ch := [⟨xp4, true, false, 5, 0⟩]
theorem xcmp : Zb.cmp xp4 xp4 = 0 := (cmp_zero _ _).2 rfl
theorem pairs_one (p q : List Nat) (h1 h2 h3 h4 : Bool) (a b c d : Nat) (h : Zb.cmp p q = 0) : pairs [⟨p, h1, h2, a, b⟩] [⟨q, h3, h4, c, d⟩] = [(some ⟨p, h1, h2, a, b⟩, some ⟨q, h3, h4, c, d⟩)] := by
  unfold pairs
  simp only [List.length_cons, List.length_nil, pairsL, h]
  rfl
theorem xthen1 : thenL xa xb = some xx := by
  unfold thenL xa xb
  rw [pairs_one _ _ _ _ _ _ _ _ _ _ xcmp]
  rfl
theorem xthen2 : thenL xx xc = some [] := by
  unfold thenL xx xc
  rw [pairs_one _ _ _ _ _ _ _ _ _ _ xcmp]
  rfl
theorem xright : rightL 2 xa = true ∧ rightL 2 xb = true ∧ rightL 2 xx = true ∧ rightL 2 xc = true := ⟨rfl, rfl, rfl, rfl⟩
theorem xok (h1 h2 : Bool) (a b : Nat) : OkC [⟨xp4, h1, h2, a, b⟩] := by
  intro c hc x hx
  simp only [List.mem_singleton] at hc
  subst hc
  simp only [xp4, List.mem_cons, List.not_mem_nil, or_false] at hx
  rcases hx with rfl | rfl <;> decide
theorem xrd {w : World} {g : Nat} (h0 : w.cell? ⟨g, 0, none⟩ = some (.int .u64 4)) (h1 : w.cell? ⟨g, 1, none⟩ = some (.int .u64 0)) : RdU w (.slice (some ⟨g, 0, none⟩) 2 2) (pti xp4) := RdU.two h0 h1

set_option maxRecDepth 8000 in
set_option maxHeartbeats 2000000 in
theorem awake_any (w : World) : Calls Tryz.prog 11 #[] w fun e w' => e = .returned (.bool true) ∧ Below w.heap.size w w' := by
  have H1 := Lib.hid (fun (va vb : Value) (w : World) (ha : RdC w va xa ∧ CapOk va) (hb : RdC w vb xb ∧ CapOk vb) => eThen_any 2 xa xb va vb w ha hb (by decide) (by decide) (xok _ _ _ _) (xok _ _ _ _))
  rw [xright.1, xright.2.1, xthen1] at H1
  have H2 := Lib.hid (fun (va vb : Value) (w : World) (ha : RdC w va xx ∧ CapOk va) (hb : RdC w vb xc ∧ CapOk vb) => eThen_any 2 xx xc va vb w ha hb (by decide) (by decide) (xok _ _ _ _) (xok _ _ _ _))
  rw [xright.2.2.1, xright.2.2.2, xthen2] at H2
  have H3 := Lib.hid (fun (va vb : Value) (w : World) (ha : RdC w va xx) (hb : RdC w vb xx) => rSameC_any xx xx va vb w ha hb (by decide) (by intro c hc; simp only [xx, List.mem_singleton] at hc; subst hc; decide))
  rw [eqL_true rfl] at H3
  go_enter Tryz.func11, Tryz.ntmps11
  go_wp2_with fail
  refine (H1.out _ _ _ ⟨RdC.one ?_, CapOk.one _⟩ ⟨RdC.one ?_, CapOk.one _⟩).mono ?_
  · refine ⟨.slice (some ⟨w.heap.size, 0, none⟩) 2 2, ?_, xrd ?_ ?_, ?_, ?_, ?_, ?_⟩ <;> simp [go_sem]
  · refine ⟨.slice (some ⟨w.heap.size, 0, none⟩) 2 2, ?_, xrd ?_ ?_, ?_, ?_, ?_, ?_⟩ <;> simp [go_sem]
  rintro e w1 ⟨⟨A, c, rfl, hr1, hc1⟩, hb1⟩
  have HR1 := Lib.hid (And.intro hr1 hc1)
  have HB1 := Lib.hid (show Below w.heap.size w w1 from (show Below w.heap.size w _ from below_alloc' (below_alloc' (below_alloc' (Below.refl _ _) _) _) _).trans (hb1.mono (by simp; omega)))
  have k0 : w1.cell? ⟨w.heap.size, 0, none⟩ = some (.int .u64 4) := Below.keeps hb1 _ _ (by simp [go_sem])
  have k1 : w1.cell? ⟨w.heap.size, 1, none⟩ = some (.int .u64 0) := Below.keeps hb1 _ _ (by simp [go_sem])
  have hl1 : w.heap.size < w1.heap.size := World.block_lt_of_cell? w1 _ k0
  have hl1' : w.heap.size < w1.heap.size + 1 := by omega
  clear hb1 hr1 hc1
  go_wp2_with fail
  refine (H2.out _ _ _ ⟨HR1.out.1.below (by repeat (first | exact Below.refl _ _ | assumption | (refine Below.drew ?_) | (refine below_drewN' ?_ _) | (refine below_alloc' ?_ _))), HR1.out.2⟩ ⟨RdC.one ?_, CapOk.one _⟩).mono ?_
  · refine ⟨.slice (some ⟨w.heap.size, 0, none⟩) 2 2, ?_, xrd ?_ ?_, ?_, ?_, ?_, ?_⟩ <;> first | (simp [go_sem, k0, k1, hl1]; done) | exact Below.keeps (w := w1) (by repeat (first | exact Below.refl _ _ | assumption | (refine Below.drew ?_) | (refine below_drewN' ?_ _) | (refine below_alloc' ?_ _))) _ _ k0 | exact Below.keeps (w := w1) (by repeat (first | exact Below.refl _ _ | assumption | (refine Below.drew ?_) | (refine below_drewN' ?_ _) | (refine below_alloc' ?_ _))) _ _ k1
  rintro e w2 ⟨⟨A2, c2, rfl, hr2, hc2⟩, hb2⟩
  have HX2 := Lib.hid ((show Below w1.heap.size w1 _ from below_alloc' (Below.refl _ _) _).trans (hb2.mono (by simp)))
  have HR2 := Lib.hid (HR1.out.1.below HX2.out)
  have HB2 := Lib.hid (HB1.out.trans (HX2.out.mono HB1.out.size))
  replace k0 := Below.keeps HX2.out _ _ k0
  replace k1 := Below.keeps HX2.out _ _ k1
  have hl2 : w.heap.size < w2.heap.size := World.block_lt_of_cell? w2 _ k0
  have hl2' : w.heap.size < w2.heap.size + 1 := by omega
  clear hb2 hr2 hc2
  go_wp2_with fail
  refine (H3.out _ _ _ (HR2.out.below (by repeat (first | exact Below.refl _ _ | assumption | (refine Below.drew ?_) | (refine below_drewN' ?_ _) | (refine below_alloc' ?_ _)))) (RdC.one ?_)).mono ?_
  · refine ⟨.slice (some ⟨w.heap.size, 0, none⟩) 2 2, ?_, xrd ?_ ?_, ?_, ?_, ?_, ?_⟩ <;> first | (simp [go_sem, k0, k1, hl2]; done) | exact Below.keeps (w := w2) (by repeat (first | exact Below.refl _ _ | assumption | (refine Below.drew ?_) | (refine below_drewN' ?_ _) | (refine below_alloc' ?_ _))) _ _ k0 | exact Below.keeps (w := w2) (by repeat (first | exact Below.refl _ _ | assumption | (refine Below.drew ?_) | (refine below_drewN' ?_ _) | (refine below_alloc' ?_ _))) _ _ k1
  rintro e w3 ⟨rfl, n, rfl⟩
  have hb2 := HB2.out
  go_wp2_with fail
  go_ret
  exact ⟨rfl, (by repeat (first | exact Below.refl _ _ | assumption | (refine Below.drew ?_) | (refine below_drewN' ?_ _) | (refine below_alloc' ?_ _)))⟩
end Go.Proofs.YtjokcagggmjgmaaGreat
/-! MakA -/
namespace Go.Proofs.YtjokcagggmjgmaaGreat
open Go.RowKit
set_option linter.unusedVariables false
set_option linter.unusedSimpArgs false
set_option maxRecDepth 100000

end Go.Proofs.YtjokcagggmjgmaaGreat
/-! RowD -/
namespace Go.Proofs.YtjokcagggmjgmaaGreat
open Go.RowKit
set_option linter.unusedVariables false

/-- the row at block g, with room for n, holds the entries l; their points lie in rows of numbers -/
structure RowD (W0 w : World) (g n : Nat) (l : List En) : Prop where
  cells : ∃ cur, w.heap[g]? = some (.cells cur 51 (0, 0)) ∧ cur.size = n * 2 ∧ ∀ j (h : j < l.length), ∃ u, cur[j * 2]? = some u ∧ PtNew w u l[j].p ∧ cur[j * 2 + 1]? = some (.int .u64 (l[j].v : Nat))
  le : l.length ≤ n ∧ n ≤ maxLen
  low : W0.heap.size ≤ g
  bel : Below W0.heap.size W0 w
theorem RowD.at' {W0 w : World} {g n : Nat} {l : List En} (h : RowD W0 w g n l) (j : Nat) (hj : j < l.length) : ∃ u, w.cell? ⟨g, j * 2, none⟩ = some u ∧ PtNew w u l[j].p ∧ w.cell? ⟨g, j * 2 + 1, none⟩ = some (.int .u64 (l[j].v : Nat)) := by
  obtain ⟨cur, h1, h2, h3⟩ := h.cells
  obtain ⟨u, a, b, c⟩ := h3 j hj
  exact ⟨u, by simp [World.cell?, h1, a], b, by simp [World.cell?, h1, c]⟩
theorem RowD.rd {W0 w : World} {g n : Nat} {l : List En} (h : RowD W0 w g n l) : RdE w (.slice (some ⟨g, 0, none⟩) l.length n) l :=
  ⟨_, _, rfl, ⟨h.le.1, h.le.2, fun _ => ⟨_, _, rfl⟩⟩, fun _ => ⟨g, 0, rfl, fun j hj => by
    obtain ⟨u, a, b, c⟩ := h.at' j hj
    exact ⟨u, by simpa using a, b.rd, by simpa using c⟩⟩⟩
end Go.Proofs.YtjokcagggmjgmaaGreat
/-! MapP -/
namespace Go.Proofs.YtjokcagggmjgmaaGreat
open Go.RowKit
set_option linter.unusedVariables false

end Go.Proofs.YtjokcagggmjgmaaGreat
/-! MapA -/
namespace Go.Proofs.YtjokcagggmjgmaaGreat
open Go.RowKit
set_option linter.unusedVariables false
set_option linter.unusedSimpArgs false
set_option maxRecDepth 100000

end Go.Proofs.YtjokcagggmjgmaaGreat
/-! MapB -/
namespace Go.Proofs.YtjokcagggmjgmaaGreat
open Go.RowKit
set_option linter.unusedVariables false
set_option linter.unusedSimpArgs false
set_option maxRecDepth 100000

end Go.Proofs.YtjokcagggmjgmaaGreat
/-! SomA -/
namespace Go.Proofs.YtjokcagggmjgmaaGreat
open Go.RowKit
set_option linter.unusedVariables false
set_option linter.unusedSimpArgs false
set_option maxRecDepth 100000

end Go.Proofs.YtjokcagggmjgmaaGreat
/-! SomB -/
namespace Go.Proofs.YtjokcagggmjgmaaGreat
open Go.RowKit
set_option linter.unusedVariables false
set_option linter.unusedSimpArgs false
set_option maxRecDepth 100000

end Go.Proofs.YtjokcagggmjgmaaGreat
/-! SomC -/
namespace Go.Proofs.YtjokcagggmjgmaaGreat
open Go.RowKit
set_option linter.unusedVariables false
set_option linter.unusedSimpArgs false
set_option maxRecDepth 100000

end Go.Proofs.YtjokcagggmjgmaaGreat
/-! RefM -/
namespace Go.Proofs.YtjokcagggmjgmaaGreat
open Go.RowKit
set_option linter.unusedVariables false
set_option linter.unusedSimpArgs false
set_option maxRecDepth 100000

end Go.Proofs.YtjokcagggmjgmaaGreat
/-! MakB -/
namespace Go.Proofs.YtjokcagggmjgmaaGreat
open Go.RowKit
set_option linter.unusedVariables false
set_option linter.unusedSimpArgs false
set_option maxRecDepth 100000

end Go.Proofs.YtjokcagggmjgmaaGreat
/-! AwkA -/
namespace Go.Proofs.YtjokcagggmjgmaaGreat
open Go.RowKit
set_option linter.unusedVariables false
set_option linter.unusedSimpArgs false
set_option maxRecDepth 100000

end Go.Proofs.YtjokcagggmjgmaaGreat
/-! OpenC -/
namespace Go.Proofs.YtjokcagggmjgmaaGreat
open Go.RowKit Go.ChangeShapes Go.WideShapes Go.Deep
set_option linter.unusedVariables false

section
variable {H : Type} {enc : TypeId × Value → H} {P : Program} {w : World} {base : Nat} {spare : Nat → Bool} {held : Bool}
theorem open_slice_fields {t e : TypeId} {fs : Array Field} {fuel : Nat} {cs : List Value} {x : DataW H × List MemPlace} (ht : P.underlying t = some (.slice e)) (he : P.underlying e = some (.struct fs))
    (hone : oneCellFields P fs = true) (hC : P.cellsOf e = fs.size) (h : DataW.trod enc P w base spare held fuel t cs = some x) :
    (cs = [.slice none 0 0]) ∨
    ∃ (a : Addr) (len cap m : Nat), cs = [.slice (some a) len cap] ∧ len ≤ cap ∧ cap ≤ maxLen ∧ m = (if spare a.block then cap else len) ∧
      ∀ i, i < m → ∀ (j : Nat) (f : Field), fs[j]? = some f → ∃ (v : Value) (y : DataW H × List MemPlace) (n : Nat), w.cell? (a.add (i * fs.size + j)) = some v ∧ DataW.trod enc P w base spare held n f.type [v] = some y := by
  rcases open_slice ht h with h0 | ⟨a, len, cap, m, n, D, Pl, hcs, hb, hl, hm, hmm, hx, hi⟩
  · exact .inl h0.1
  · refine .inr ⟨a, len, cap, m, hcs, hl, hm, hmm, fun i him => ?_⟩
    obtain ⟨cs', hc, ht'⟩ := hi i him
    rw [hC] at hc
    obtain ⟨ys, n', hn', hy, hlen, hyl, hf⟩ := DataW.trod_struct he ht'
    obtain ⟨_, hcl, hat⟩ := World.cells?_some hc
    intro j f hj
    obtain ⟨ho, hk⟩ := hone_of hone j f hj
    have hjl : j < fs.size := (Array.getElem?_eq_some_iff.1 hj).1
    have hcell := hat j hjl
    have hv : cs'[j]? = some (cs'[j]'(by omega)) := List.getElem?_eq_getElem (by omega)
    have h1 := hf j f hj
    rw [ho, hk] at h1
    have hone' : (cs'.drop j).take 1 = [cs'[j]'(by omega)] := by
      rw [List.drop_eq_getElem_cons (by omega)]
      rfl
    rw [hone'] at h1
    have hys : ys[j]? = some (ys[j]'(by omega)) := List.getElem?_eq_getElem (by omega)
    refine ⟨_, _, n', ?_, h1.trans hys⟩
    rw [← Go.Deep.add_add, hcell, hv]
end
theorem spot_none {w : World} {a : Addr} {v : Value} (h : w.cell? a = some v) : ∃ b o, a = ⟨b, o, none⟩ := by
  obtain ⟨b, o, sp⟩ := a
  cases sp with
  | none => exact ⟨b, o, rfl⟩
  | some q => simp [World.cell?] at h; split at h <;> cases h
theorem add_plain (b o j : Nat) : (⟨b, o, none⟩ : Addr).add j = ⟨b, o + j, none⟩ := by
  unfold Addr.add; split
  · rename_i h; subst h; rfl
  · rfl
theorem pti_toNat {xs : List Int} (h : ∀ x ∈ xs, 0 ≤ x ∧ x ≤ 18446744073709551615) : pti (xs.map Int.toNat) = xs := by
  unfold pti
  rw [List.map_map]
  conv => rhs; rw [← List.map_id xs]
  apply List.map_congr_left
  intro x hx
  have := h x hx
  simp only [Function.comp_apply, id]
  omega
instance : Inhabited Ch := ⟨⟨[], false, false, 0, 0⟩⟩
end Go.Proofs.YtjokcagggmjgmaaGreat
/-! OpenA -/
namespace Go.Proofs.YtjokcagggmjgmaaGreat
open Go.RowKit Go.ChangeShapes Go.WideShapes Go.Deep
set_option linter.unusedVariables false

/-- an act's numbers, whatever its point's length -/
def Ac.OkV (a : Ac) : Prop := (∀ c ∈ a.p, c < 2 ^ 64) ∧ a.v < 2 ^ 64
theorem open_acts {H : Type} {enc : TypeId × Value → H} {W : World} {base : Nat} {held : Bool} {v : Value} {x : DataW H × List MemPlace} {fuel : Nat}
    (h : DataW.trod enc Tryz.prog W base (fun _ => true) held fuel 22 [v] = some x) :
    ∃ l, RdA W v l ∧ (∀ c ∈ l, Ac.OkV c) ∧ l.length ≤ maxLen ∧ ∃ A n c, v = .slice A n c ∧ n ≤ c ∧ c ≤ maxLen ∧ (0 < c → ∃ b o, A = some ⟨b, o, none⟩) := by
  have hu : ∃ fs, Tryz.prog.underlying 86 = some (.struct fs) ∧ fs.size = 3 ∧ (fs[0]?.map (·.type) = some 4) ∧ (fs[1]?.map (·.type) = some 48) ∧ (fs[2]?.map (·.type) = some 49) ∧ oneCellFields Tryz.prog fs = true ∧ Tryz.prog.cellsOf 86 = fs.size :=
    ⟨_, Tryz.underlying86, by kernel_rfl, by kernel_rfl, by kernel_rfl, by kernel_rfl, by kernel_rfl, by kernel_rfl⟩
  obtain ⟨fs, he, hs, t0, t1, t2, hone, hC⟩ := hu
  rcases open_slice_fields Tryz.underlying22 he hone hC h with h0 | ⟨a, len, cap, m, hcs, hl, hm, hmm, hf⟩
  · simp only [List.cons.injEq, and_true] at h0
    subst h0
    exact ⟨[], ⟨none, 0, rfl, fun h => absurd h (by simp)⟩, fun c hc => by simp at hc, by simp [maxLen], none, 0, 0, rfl, Nat.le_refl _, Nat.zero_le _, fun h => absurd h (by omega)⟩
  · simp only [List.cons.injEq, and_true] at hcs
    subst hcs
    have hlm : len ≤ m := by rw [hmm]; split <;> omega
    rw [hs] at hf
    have hmc : m = cap := by rw [hmm]; rfl
    have hab : 0 < cap → ∃ b o, a = ⟨b, o, none⟩ := by
      intro h0
      obtain ⟨f0, q0, r0⟩ := Option.map_eq_some_iff.1 t0
      obtain ⟨v0, y0, n0, c0, d0⟩ := hf 0 (by omega) 0 f0 q0
      exact spot_none (by simpa [Addr.add] using c0)
    have each : ∀ i, i < len → ∃ c, (Ac.OkV c) ∧ ∃ b o, a = ⟨b, o, none⟩ ∧ AcAt W b (o + i * 3) c := by
      intro i hi
      have hfi := hf i (by omega)
      obtain ⟨f0, q0, r0⟩ := Option.map_eq_some_iff.1 t0
      obtain ⟨f1, q1, r1⟩ := Option.map_eq_some_iff.1 t1
      obtain ⟨f2, q2, r2⟩ := Option.map_eq_some_iff.1 t2
      obtain ⟨v0, y0, n0, c0, d0⟩ := hfi 0 f0 q0
      obtain ⟨v1, y1, n1, c1, d1⟩ := hfi 1 f1 q1
      obtain ⟨v2, y2, n2, c2, d2⟩ := hfi 2 f2 q2
      rw [r0] at d0; rw [r1] at d1; rw [r2] at d2
      obtain ⟨b, o, ha⟩ := hab (by omega)
      subst ha
      rw [add_plain] at c0 c1 c2
      obtain ⟨b0, e0, _⟩ := DataW.trod_bool Tryz.underlying4 d0
      obtain ⟨i2, e2, _, w2⟩ := DataW.trod_int Tryz.underlying49 d2
      simp only [List.cons.injEq, and_true] at e0 e2
      subst e0 e2
      have hp1 : ∃ xs : List Int, (∀ x ∈ xs, 0 ≤ x ∧ x ≤ 18446744073709551615) ∧ RdU W v1 xs := by
        rcases open_ints Tryz.underlying48 Tryz.underlying49 (by kernel_rfl) d1 with ⟨hcs, _⟩ | ⟨x, l, c, zs, hcs, _, hl, hm, hz, _, hcell, hwz⟩
        · simp only [List.cons.injEq, and_true] at hcs
          subst hcs
          exact ⟨[], fun x hx => by simp at hx, RdU.nil _ _ _⟩
        · simp only [List.cons.injEq, and_true] at hcs
          subst hcs
          obtain ⟨xs, _, _, h3, h4⟩ := RdU.of_row (w := W) (a := some x) (len := l) (cap := c) (zs := zs) (.inr ⟨_, rfl, hl, hm, by simpa using hz, hcell, hwz⟩)
          exact ⟨xs, h3, h4⟩
      obtain ⟨xs1, hx1, hv1⟩ := hp1
      have ho1 : ∀ y ∈ xs1.map Int.toNat, y < 2 ^ 64 := fun y hy => by
        simp only [List.mem_map] at hy
        obtain ⟨z, hz, rfl⟩ := hy
        have := hx1 z hz
        omega
      have g2 := bounds_u64 w2
      refine ⟨(⟨b0, xs1.map Int.toNat, i2.toNat⟩ : Ac), ⟨ho1, by show i2.toNat < 2 ^ 64; omega⟩, b, o, rfl, ?_⟩
      have z0 : W.cell? ⟨b, o + i * 3, none⟩ = some (.bool b0) := by simpa [Nat.add_assoc] using c0
      have z1 : W.cell? ⟨b, o + i * 3 + 1, none⟩ = some v1 := by simpa [Nat.add_assoc] using c1
      have y1' : RdU W v1 (pti (xs1.map Int.toNat)) := by rw [pti_toNat hx1]; exact hv1
      have z2 : W.cell? ⟨b, o + i * 3 + 2, none⟩ = some (.int .u64 (i2.toNat : Nat)) := by rw [show ((i2.toNat : Nat) : Int) = i2 by omega]; simpa [Nat.add_assoc] using c2
      exact ⟨v1, z0, by simpa [Nat.add_assoc] using z1, y1', by simpa [Nat.add_assoc] using z2⟩
    obtain ⟨f, hF⟩ := choose_lt each
    refine ⟨(List.range len).map f, ⟨some a, cap, by simp, fun hp => ?_⟩, ?_, by simp; omega, some a, len, cap, rfl, hl, hm, fun h => ?_⟩
    · have hp' : 0 < len := by simpa using hp
      obtain ⟨_, b, o, ha, _⟩ := hF 0 hp'
      refine ⟨b, o, by rw [ha], fun j hj => ?_⟩
      obtain ⟨_, b', o', ha', hc⟩ := hF j (by simpa using hj)
      rw [ha] at ha'
      injection ha' with e1 e2
      subst e1 e2
      simpa using hc
    · intro c hc
      simp only [List.mem_map, List.mem_range] at hc
      obtain ⟨j, hj, rfl⟩ := hc
      exact (hF j hj).1
    · obtain ⟨b, o, ha⟩ := hab h
      exact ⟨b, o, by rw [ha]⟩
end Go.Proofs.YtjokcagggmjgmaaGreat
/-! LawMaps -/
namespace Go.Proofs.YtjokcagggmjgmaaGreat
open Go.RowKit
set_option linter.unusedVariables false
set_option linter.unusedSimpArgs false
set_option maxRecDepth 100000

theorem Nd.vlt {w : World} {k b : Nat} {l : List En} (h : Nd w k b l) : ∀ e ∈ l, e.v < 2 ^ 64 := by
  induction h with
  | leaf b p v h hp ho hv =>
    intro e he
    obtain rfl : e = ⟨p, v⟩ := by simpa using he
    exact hv
  | node b s n pre ks h hs hkd hn ih =>
    intro e he
    obtain ⟨x, hx, he⟩ := mem_cat.1 he
    obtain ⟨y, hy, rfl⟩ := List.mem_map.1 hx
    exact ih y hy e he
theorem TrR.vlt {w : World} {k t : Nat} {l : List En} (h : TrR w t k l) : ∀ e ∈ l, e.v < 2 ^ 64 := by
  obtain ⟨r, _, h2⟩ := h.c1
  cases r with
  | none => obtain rfl : l = [] := h2; intro e he; simp at he
  | some b => exact Nd.vlt h2
end Go.Proofs.YtjokcagggmjgmaaGreat
/-! LawDiffs -/
namespace Go.Proofs.YtjokcagggmjgmaaGreat
open Go.RowKit
set_option linter.unusedVariables false
set_option linter.unusedSimpArgs false
set_option maxRecDepth 100000

theorem heavyA_ok6 {l : List Ac} {most : Nat} (h : heavyL l most = false) : l.length ≤ most ∧ ∀ a ∈ l, a.p.length ≤ 40 := by
  unfold heavyL at h
  rw [Bool.or_eq_false_iff] at h
  refine ⟨by have := of_decide_eq_false h.1; omega, fun a ha => ?_⟩
  have := List.any_eq_false.1 h.2 a ha
  simp at this
  omega
theorem do_fine {W w' : World} {t k : Nat} {a b : List En} {c : List Ch} {e : Ending} (h : DoP W t k a c e w') (h1 : rightL k c = true) (h2 : fitsL a c = true) (h3 : doL a c = b) : ∃ g, e = .returned (.tuple #[.pointer (some ⟨g, 0, none⟩), .int .i64 0]) ∧ TrR w' g k b ∧ Below W.heap.size W w' := by
  obtain ⟨hb, hcase⟩ := h
  rcases hcase with ⟨h, _⟩ | ⟨_, h, _⟩ | ⟨_, _, g, q1, q2, _⟩
  · rw [h1] at h; cases h
  · rw [h2] at h; cases h
  · rw [h3] at q2; exact ⟨g, q1, q2, hb⟩
set_option maxHeartbeats 8000000 in
theorem editDiffs_any (w : World) (k : Int) (l m : List Ac) (vl vm : Value) (hl : RdA w vl l) (hm : RdA w vm m) (hlo : ∀ a ∈ l, a.OkV) (hmo : ∀ a ∈ m, a.OkV) (hll : l.length ≤ maxLen) (hml : m.length ≤ maxLen) :
    Calls Tryz.prog 7 #[.int .i64 k, vl, vm] w fun e w' => e = .returned (.bool true) ∧ Below w.heap.size w w' := by
  have HAW := Lib.hid (fun w' => awake_any w')
  have HH1 := Lib.hid (fun w' (hb : Below w.heap.size w w') => heavyA_any w' l vl 30 (hl.below hb) hll)
  have HH2 := Lib.hid (fun w' (hb : Below w.heap.size w w') => heavyA_any w' m vm 30 (hm.below hb) hml)
  have HV := Lib.hid (And.intro hl (And.intro hm (And.intro hlo hmo)))
  obtain ⟨A1, q1, rfl, z1⟩ := hl
  obtain ⟨A2, q2, rfl, z2⟩ := hm
  clear z1 z2 hlo hmo hll hml
  obtain ⟨h1, hh1⟩ : ∃ b, heavyL l 30 = b := ⟨_, rfl⟩
  obtain ⟨h2, hh2⟩ : ∃ b, heavyL m 30 = b := ⟨_, rfl⟩
  rw [hh1] at HH1
  rw [hh2] at HH2
  have HHH := Lib.hid (And.intro hh1 hh2)
  clear hh1 hh2
  cases h1 with
  | true =>
    go_enter Tryz.func7, Tryz.ntmps7
    go_wp2_with fail
    refine (HAW.out _).mono ?_
    rintro e w1 ⟨rfl, hb1⟩
    have HB := Lib.hid hb1
    clear hb1
    go_wp2_with fail
    refine (HH1.out _ HB.out).mono ?_
    rintro e w2 ⟨rfl, hw⟩
    obtain rfl := hw.symm
    clear hw
    go_wp2_with fail
    go_ret
    exact ⟨rfl, HB.out⟩
  | false =>
  cases h2 with
  | true =>
    go_enter Tryz.func7, Tryz.ntmps7
    go_wp2_with fail
    refine (HAW.out _).mono ?_
    rintro e w1 ⟨rfl, hb1⟩
    have HB := Lib.hid hb1
    clear hb1
    go_wp2_with fail
    refine (HH1.out _ HB.out).mono ?_
    rintro e w2 ⟨rfl, hw⟩
    obtain rfl := hw.symm
    clear hw
    go_wp2_with fail
    refine (HH2.out _ HB.out).mono ?_
    rintro e w2 ⟨rfl, hw⟩
    obtain rfl := hw.symm
    clear hw
    go_wp2_with fail
    go_ret
    exact ⟨rfl, HB.out⟩
  | false =>
    by_cases g1 : k < 1
    · go_enter Tryz.func7, Tryz.ntmps7
      go_wp2_with fail
      refine (HAW.out _).mono ?_
      rintro e w1 ⟨rfl, hb1⟩
      have HB := Lib.hid hb1
      clear hb1
      go_wp2_with fail
      refine (HH1.out _ HB.out).mono ?_
      rintro e w2 ⟨rfl, hw⟩
      obtain rfl := hw.symm
      clear hw
      go_wp2_with fail
      refine (HH2.out _ HB.out).mono ?_
      rintro e w2 ⟨rfl, hw⟩
      obtain rfl := hw.symm
      clear hw
      go_wp2_with fail
      go_ret
      exact ⟨rfl, HB.out⟩
    · by_cases g2 : k > 16
      · go_enter Tryz.func7, Tryz.ntmps7
        go_wp2_with fail
        refine (HAW.out _).mono ?_
        rintro e w1 ⟨rfl, hb1⟩
        have HB := Lib.hid hb1
        clear hb1
        go_wp2_with fail
        refine (HH1.out _ HB.out).mono ?_
        rintro e w2 ⟨rfl, hw⟩
        obtain rfl := hw.symm
        clear hw
        go_wp2_with fail
        refine (HH2.out _ HB.out).mono ?_
        rintro e w2 ⟨rfl, hw⟩
        obtain rfl := hw.symm
        clear hw
        go_wp2_with fail
        go_ret
        exact ⟨rfl, HB.out⟩
      · obtain ⟨n, rfl⟩ : ∃ n : Nat, k = n := ⟨k.toNat, by omega⟩
        have o1 := heavyA_ok6 HHH.out.1
        have o2 := heavyA_ok6 HHH.out.2
        have n1 : 1 ≤ n := by omega
        have n16 : n ≤ 16 := by omega
        have l30 : l.length ≤ 30 := o1.1
        have m30 : m.length ≤ 30 := o2.1
        have ok1 : ∀ a ∈ l, a.Ok := fun a ha => ⟨o1.2 a ha, (HV.out.2.2.1 a ha).1, (HV.out.2.2.1 a ha).2⟩
        have ok2 : ∀ a ∈ m, a.Ok := fun a ha => ⟨o2.2 a ha, (HV.out.2.2.2 a ha).1, (HV.out.2.2.2 a ha).2⟩
        have HTW := Lib.hid (fun W (hb : Below w.heap.size w W) => two_any W n l m _ _ n1 n16 (HV.out.1.below hb) (HV.out.2.1.below hb) ok1 ok2 (by omega))
        have hin : EtS n (playL n [] l) := EtS.play ⟨Et.nil n, by omega, by simp⟩ _ ok1 (by simp; omega)
        have hinl : (playL n [] l).length ≤ 30 := by have := play_len n [] l; simp at this; omega
        have hon : EtS n (playL n (playL n [] l) m) := EtS.play hin _ ok2 (by omega)
        have honl : (playL n (playL n [] l) m).length ≤ 60 := by have := play_len n (playL n [] l) m; omega
        generalize playL n (playL n [] l) m = on at *
        generalize playL n [] l = in_ at *
        have hcl : (changesL in_ on).length ≤ 90 := by have := changes_len hin.et hon.et; omega
        have hrt := chg_rt hin.et hon.et
        have e1 := rt_rightL n1 n16 hrt
        have e2 := chg_fits hin.et hon.et
        have e3 := chg_do hin.et hon.et
        have e4 := rt_rightL n1 n16 hrt.undo
        have e5 : fitsL on (undoL (changesL in_ on)) = true := by have := fits_undo hin.et hrt; rw [e3] at this; exact this
        have e6 : doL on (undoL (changesL in_ on)) = in_ := by have := do_undo hin.et hrt e2; rw [e3] at this; exact this
        have HEE := Lib.hid (And.intro e1 (And.intro e2 (And.intro e3 (And.intro e4 (And.intro e5 e6)))))
        have hul : (undoL (changesL in_ on)).length ≤ 1000 := by unfold undoL; rw [List.length_map]; omega
        have hc40 : ∀ c ∈ changesL in_ on, c.p.length ≤ 40 := fun c hc => by rw [hrt.len c hc]; omega
        have HCV := Lib.hid (fun (va : ∀ e ∈ in_, e.v < 2 ^ 64) (vb : ∀ e ∈ on, e.v < 2 ^ 64) => chg_okV hin.et hon.et va vb)
        have HCH := Lib.hid (fun W t u (h1 : TrR W t n in_) (h2 : TrR W u n on) => changes_any W t u n in_ on h1 h2 (by omega))
        have HS1 := Lib.hid (fun W t u (h1 : TrR W t n on) (h2 : TrR W u n on) => same_any W t u n on on h1 h2 (by omega))
        have HS2 := Lib.hid (fun W t u (h1 : TrR W t n in_) (h2 : TrR W u n in_) => same_any W t u n in_ in_ h1 h2 (by omega))
        rw [chg_self hon.et] at HS1
        rw [chg_self hin.et] at HS2
        have HI1 := Lib.hid (fun W t v (h1 : TrR W t n on) (h2 : RdE W v on) => is07_any W t n on v h1 h2 hon)
        have HI2 := Lib.hid (fun W t v (h1 : TrR W t n in_) (h2 : RdE W v in_) => is07_any W t n in_ v h1 h2 hin)
        generalize changesL in_ on = c at *
        have HD1 := Lib.hid (fun W t v (ht : TrR W t n in_) (hv : RdC W v c) (hov : ∀ x ∈ c, x.new < 2 ^ 64) => eDo_any W t n in_ c v ht hv (by omega) hrt.ok hov)
        have HUN := Lib.hid (fun W v (hv : RdC W v c) => eUndo_any W c v hv (by omega) hc40)
        have HD2 := Lib.hid (fun W t v (ht : TrR W t n on) (hv : RdC W v (undoL c)) (hov : ∀ x ∈ c, x.old < 2 ^ 64) => eDo_any W t n on (undoL c) v ht hv hul hrt.undo.ok (fun x hx => by
          unfold undoL at hx; obtain ⟨y, hy, rfl⟩ := List.mem_map.1 hx; exact hov y hy))
        have HER := Lib.hid (fun W v (hv : RdC W v c) => eRight_any (n : Nat) c v W hv (by omega) hrt.ok)
        rw [e1] at HER
        clear o1 o2 n1 n16 l30 m30 ok1 ok2 hin hinl hon honl hcl hrt e1 e2 e3 e4 e5 e6 hul hc40
        go_enter Tryz.func7, Tryz.ntmps7
        go_wp2_with fail
        refine (HAW.out _).mono ?_
        rintro e w1 ⟨rfl, hb1⟩
        have HB := Lib.hid hb1
        clear hb1
        go_wp2_with fail
        refine (HH1.out _ HB.out).mono ?_
        rintro e w2 ⟨rfl, hw⟩
        obtain rfl := hw.symm
        clear hw
        go_wp2_with fail
        refine (HH2.out _ HB.out).mono ?_
        rintro e w2 ⟨rfl, hw⟩
        obtain rfl := hw.symm
        clear hw
        go_wp2_with fail
        refine (HTW.out _ HB.out).mono ?_
        rintro e w2 ⟨t, u, va, vb, rfl, ht, hu, hva, hvb, hb2⟩
        have HT := Lib.hid (And.intro ht (And.intro hu (And.intro hva hvb)))
        have HB2 := Lib.hid (HB.out.trans (hb2.mono HB.out.size))
        have HCH2 := Lib.hid (HCH.out w2 t u ht hu)
        clear ht hu hva hvb hb2
        go_wp2_with fail
        refine (HCH2.out).mono ?_
        rintro e w3 ⟨v, rfl, hown, hb3⟩
        have HB3 := Lib.hid (HB2.out.trans (hb3.mono HB2.out.size))
        have HT3 := Lib.hid (And.intro (HT.out.1.bel hb3) (And.intro (HT.out.2.1.bel hb3) (And.intro (HT.out.2.2.1.below hb3) (And.intro (HT.out.2.2.2.below hb3) (hown.rd (fun u p hu => hu.rd)).1))))
        have HOV := Lib.hid (HCV.out HT.out.1.vlt HT.out.2.1.vlt)
        have HD3 := Lib.hid (HD1.out w3 t v HT3.out.1 HT3.out.2.2.2.2 (fun x hx => (HOV.out x hx).2))
        clear hown hb3
        go_wp2_with fail
        refine (HD3.out).mono ?_
        intro e w4 h4
        obtain ⟨g, rfl, hg, hb4⟩ := do_fine h4 HEE.out.1 HEE.out.2.1 HEE.out.2.2.1
        have HC4 := Lib.hid hb4
        have HG4 := Lib.hid hg
        have HU4 := Lib.hid (HUN.out w4 v (HT3.out.2.2.2.2.below hb4))
        clear h4 hg hb4
        go_wp2_with fail
        refine (HU4.out).mono ?_
        rintro e w5 ⟨v5, rfl, hv5, hb5⟩
        have HC5 := Lib.hid (HC4.out.trans (hb5.mono HC4.out.size))
        have HG5 := Lib.hid (HG4.out.bel hb5)
        have HD5 := Lib.hid (HD2.out w5 u v5 (HT3.out.2.1.bel HC5.out) hv5 (fun x hx => (HOV.out x hx).1))
        clear hv5 hb5
        go_wp2_with fail
        refine (HD5.out).mono ?_
        intro e w6 h6
        obtain ⟨g2, rfl, hg2, hb6⟩ := do_fine h6 HEE.out.2.2.2.1 HEE.out.2.2.2.2.1 HEE.out.2.2.2.2.2
        have HC6 := Lib.hid (HC5.out.trans (hb6.mono HC5.out.size))
        have HG6 := Lib.hid (And.intro (HG5.out.bel hb6) hg2)
        have HB6 := Lib.hid (HB3.out.trans (HC6.out.mono HB3.out.size))
        have HT6 := Lib.hid (And.intro (HT3.out.1.bel HC6.out) (And.intro (HT3.out.2.1.bel HC6.out) (And.intro (HT3.out.2.2.1.below HC6.out) (And.intro (HT3.out.2.2.2.1.below HC6.out) (HT3.out.2.2.2.2.below HC6.out)))))
        clear h6 hg2 hb6
        have HX0 := Lib.hid (Below.refl w6.heap.size w6)
        go_wp2_with fail
        refine (HER.out w6 v HT6.out.2.2.2.2).mono ?_
        rintro e w7 ⟨rfl, hb7⟩
        have HX7 := Lib.hid (show Below w6.heap.size w6 w7 from hb7)
        clear hb7
        go_wp2_with fail
        refine (HI1.out w7 g vb (HG6.out.1.bel HX7.out) (HT6.out.2.2.2.1.below HX7.out)).mono ?_
        rintro e w8 ⟨rfl, hb8⟩
        have HX8 := Lib.hid (HX7.out.trans (hb8.mono HX7.out.size))
        clear hb8
        go_wp2_with fail
        refine (HI2.out w8 g2 va (HG6.out.2.bel HX8.out) (HT6.out.2.2.1.below HX8.out)).mono ?_
        rintro e w9 ⟨rfl, hb9⟩
        have HX9 := Lib.hid (HX8.out.trans (hb9.mono HX8.out.size))
        clear hb9
        go_wp2_with fail
        refine (HS1.out w9 g u (HG6.out.1.bel HX9.out) (HT6.out.2.1.bel HX9.out)).mono ?_
        rintro e wa ⟨rfl, hba⟩
        have HXa := Lib.hid (HX9.out.trans (hba.mono HX9.out.size))
        clear hba
        go_wp2_with fail
        refine (HS2.out wa g2 t (HG6.out.2.bel HXa.out) (HT6.out.1.bel HXa.out)).mono ?_
        rintro e wb ⟨rfl, hbb⟩
        have HXb := Lib.hid (HB6.out.trans ((HXa.out.trans (hbb.mono HXa.out.size)).mono HB6.out.size))
        clear hbb
        go_wp2_with fail
        go_ret
        exact ⟨rfl, HXb.out⟩
end Go.Proofs.YtjokcagggmjgmaaGreat
