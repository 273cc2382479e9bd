/-
  PlaneGroup: whatever comes in, it returns true.
-/
import Derived.Test.YtlmgabhdeeehmaaLawGroup
namespace Go.Proofs.Ytlmgabhdeeehmaa
open Go.RowKit
set_option linter.unusedVariables false
set_option linter.unusedSimpArgs false

theorem Pl.then_back {t : Int} (f : Bool) (h0 : 0 ≤ t) (h3 : t ≤ 3) (x y : Int) :
    (Pl.thenT t (Pl.backT t f) f = 0 ∧ Pl.thenX (Pl.backT t f) f (Pl.backX t f x y) x y = 0 ∧ Pl.thenY (Pl.backT t f) f (Pl.backY t f x y) x y = 0) ∧
    (Pl.thenT (Pl.backT t f) t f = 0 ∧ Pl.thenX t f x (Pl.backX t f x y) (Pl.backY t f x y) = 0 ∧ Pl.thenY t f y (Pl.backX t f x y) (Pl.backY t f x y) = 0) := by
  rcases Pl.four h0 h3 with rfl | rfl | rfl | rfl <;> cases f <;> simp [Pl.thenT, Pl.thenX, Pl.thenY, Pl.backX, Pl.backY, Pl.turnX, Pl.turnY, Pl.rotX, Pl.rotY, Pl.flipY, Pl.backT] <;> omega

theorem thenV_zero {t u x y a b : Int} {f g : Bool} (h : Pl.rightB t x y = true) (k : Pl.rightB u a b = true) (h1 : Pl.thenT t u g = 0) (h2 : (f != g) = false) (h3 : Pl.thenX u g a x y = 0) (h4 : Pl.thenY u g b x y = 0) :
    thenV t f x y u g a b = (Mz, 0) := by
  unfold thenV
  rw [h1, h2, h3, h4]
  simp [h, k, show Pl.rightB 0 0 0 = true from rfl]

set_option maxRecDepth 100000 in
set_option maxHeartbeats 4000000 in
theorem planeGroup_all (t : Int) (f : Bool) (x y : Int) (vp vq : Value) (ps qs : List Int) (w : World) (hp : RdU w vp ps) (hq : RdU w vq qs) (p0 : ∀ z ∈ ps, 0 ≤ z) (q0 : ∀ z ∈ qs, 0 ≤ z) :
    Calls Try.prog 5 #[Mo t f x y, vp, vq] w fun e w' => e = .returned (.bool true) ∧ Below w.heap.size w w' := by
  cases hr : Pl.rightB t x y with
  | false => exact group_e0 t f x y vp vq ps qs w hp hq hr
  | true =>
    cases h1 : Pl.smallB ps with
    | false => exact group_e1 t f x y vp vq ps qs w hp hq hr h1
    | true =>
      cases h2 : Pl.smallB qs with
      | false => exact group_e2 t f x y vp vq ps qs w hp hq hr h1 h2
      | true =>
        have hR := Pl.rightB_iff.1 hr
        have hbr := Pl.back_right f hr
        obtain ⟨⟨a1, a2, a3⟩, b1, b2, b3⟩ := Pl.then_back f hR.1 hR.2.1 x y
        have bk := fun w : World => Back_any t f x y w hr
        have ta : ∀ w : World, Calls Try.prog 22 #[Mo t f x y, Mo (Pl.backT t f) f (Pl.backX t f x y) (Pl.backY t f x y)] w fun e w' => e = .returned (.tuple #[Mz, .int .i64 0]) ∧ Below w.heap.size w w' := by
          intro w; have := Then_any t f x y (Pl.backT t f) f (Pl.backX t f x y) (Pl.backY t f x y) w
          rwa [thenV_zero hr hbr a1 (by simp) a2 a3] at this
        have tb : ∀ w : World, Calls Try.prog 22 #[Mo (Pl.backT t f) f (Pl.backX t f x y) (Pl.backY t f x y), Mo t f x y] w fun e w' => e = .returned (.tuple #[Mz, .int .i64 0]) ∧ Below w.heap.size w w' := by
          intro w; have := Then_any (Pl.backT t f) f (Pl.backX t f x y) (Pl.backY t f x y) t f x y w
          rwa [thenV_zero hbr hr b1 (by simp) b2 b3] at this
        have tk : ∀ (k : Int) (w : World), 0 ≤ k → k ≤ 3 → Calls Try.prog 22 #[Mo k false 0 0, Mo 1 false 0 0] w fun e w' => e = .returned (.tuple #[Mo ((k + 1) % 4) false 0 0, .int .i64 0]) ∧ Below w.heap.size w w' := by
          intro k w h0 h3; have := Then_any k false 0 0 1 false 0 0 w
          rcases Pl.four h0 h3 with rfl | rfl | rfl | rfl <;> exact this
        have t2 : ∀ w : World, Calls Try.prog 22 #[Mo t true 0 0, Mo t true 0 0] w fun e w' => e = .returned (.tuple #[Mz, .int .i64 0]) ∧ Below w.heap.size w w' := by
          intro w; have := Then_any t true 0 0 t true 0 0 w
          have h00 : Pl.rightB t 0 0 = true := Pl.rightB_iff.2 (by omega)
          rwa [thenV_zero h00 h00 (by simp [Pl.thenT]; omega) (by simp) (by rcases Pl.four hR.1 hR.2.1 with rfl | rfl | rfl | rfl <;> rfl) (by rcases Pl.four hR.1 hR.2.1 with rfl | rfl | rfl | rfl <;> rfl)] at this
        obtain ⟨p1, p2, rfl, c1, c2⟩ := Pl.smallB_iff.1 h1
        obtain ⟨q1, q2, rfl, c3, c4⟩ := Pl.smallB_iff.1 h2
        have d1 := p0 p1 (by simp)
        have d2 := p0 p2 (by simp)
        have d3 := q0 q1 (by simp)
        have d4 := q0 q2 (by simp)
        have mp : ∀ (w : World) (v : Value), RdU w v [p1, p2] → Calls Try.prog 20 #[Mo t f x y, v] w (RetPt w (Pl.moveR t f x y [p1, p2])) := fun w v h => Move_any t f x y v _ w h p0
        have mq : ∀ (w : World) (v : Value), RdU w v [q1, q2] → Calls Try.prog 20 #[Mo t f x y, v] w (RetPt w (Pl.moveR t f x y [q1, q2])) := fun w v h => Move_any t f x y v _ w h q0
        cases hc : (Pl.coordB (Pl.turnX t f p1 p2 + x) && Pl.coordB (Pl.turnY t f p1 p2 + y)) with
        | false =>
          rw [Pl.moveR_long hr h1 hc] at mp
          exact group_long t f x y vp vq _ _ w hp hq hr h1 h2 _ _ _ bk ta tb tk t2 (Pl.moveR t f x y [q1, q2]).1 (Pl.moveR t f x y [q1, q2]).2 mp mq
        | true =>
          rw [Pl.moveR_fine hr h1 hc] at mp
          cases hd : (Pl.coordB (Pl.turnX t f q1 q2 + x) && Pl.coordB (Pl.turnY t f q1 q2 + y)) with
          | false =>
            rw [Pl.moveR_long hr h2 hd] at mq
            exact group_pl t f x y vp vq _ _ w hp hq hr h1 h2 _ _ _ bk ta tb tk t2 _ _ mp mq
          | true =>
            rw [Pl.moveR_fine hr h2 hd] at mq
            simp only [Bool.and_eq_true, Pl.coordB_iff] at hc hd
            have e : farI (Pl.turnX t f p1 p2 + x) (Pl.turnY t f p1 p2 + y) (Pl.turnX t f q1 q2 + x) (Pl.turnY t f q1 q2 + y) = farI p1 p2 q1 q2 := Pl.far_move f hR.1 hR.2.1 x y p1 p2 q1 q2
            exact group_fine t f x y vp vq _ _ w hp hq (farI p1 p2 q1 q2) hr h1 h2 _ _ _ bk ta tb tk t2 _ _ _ _ p1 p2 q1 q2 rfl rfl mp mq
              (fun w v u h k => by have := Far_any _ _ _ _ v u w h k hc.1 hc.2 hd.1 hd.2; rwa [e] at this) (fun w v u h k => Far_any p1 p2 q1 q2 v u w h k (by omega) (by omega) (by omega) (by omega))

end Go.Proofs.Ytlmgabhdeeehmaa
