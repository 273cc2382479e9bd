/-
  PlaneGroup: of any motion, what is done and undone is nothing; four quarter turns are none; two flips are none; two points are as far from each other, in squares, moved.
-/
import Derived.Test.YtlmgabhdeeehmaaRef27
import Derived.Test.YtlmgabhdeeehmaaPlane3
import Derived.Test.YtlmgabhdeeehmaaMovesPure
namespace Go.Proofs.Ytlmgabhdeeehmaa
open Go.RowKit
set_option linter.unusedVariables false
set_option linter.unusedSimpArgs false

set_option maxRecDepth 100000 in
set_option maxHeartbeats 8000000 in
theorem group_e0 (t : Int) (f : Bool) (x y : Int) (vp vq : Value) (ps qs : List Int) (w : World) (hp : RdU w vp ps) (hq : RdU w vq qs) (hr : Pl.rightB t x y = false) :
    Calls Try.prog 5 #[Mo t f x y, vp, vq] w fun e w' => e = .returned (.bool true) ∧ Below w.heap.size w w' := by
  have HR := Lib.hid hr
  clear hr
  go_enter Try.func5, Try.ntmps5
  go_wp2_with fail
  refine Calls.mono (awake27 _) ?_
  rintro e w1 ⟨rfl, hb0⟩
  have a0 : w1.cell? ⟨w.heap.size, 0, none⟩ = some (.int .i64 t) := Below.keeps hb0 _ _ (by simp [go_sem])
  have a1 : w1.cell? ⟨w.heap.size, 1, none⟩ = some (.bool f) := Below.keeps hb0 _ _ (by simp [go_sem])
  have a2 : w1.cell? ⟨w.heap.size, 2, none⟩ = some (.int .i64 x) := Below.keeps hb0 _ _ (by simp [go_sem])
  have a3 : w1.cell? ⟨w.heap.size, 3, none⟩ = some (.int .i64 y) := Below.keeps hb0 _ _ (by simp [go_sem])
  have HB : Below w.heap.size w w1 := below_trans (by repeat (first | exact Below.refl _ _ | assumption | (refine Below.drew ?_) | (refine below_drewN' ?_ _) | (refine below_alloc' ?_ _) | (refine Below.setCell ?_ (by first | exact Nat.le_refl _ | (simp; done) | (simp; omega)) _))) hb0
  clear hb0
  have HW := HB
  clear HB
  have al : w.heap.size < w1.heap.size := World.block_lt_of_cell? w1 _ a0
  have al_1 : w.heap.size < w1.heap.size + 1 := by omega
  have al_2 : w.heap.size < w1.heap.size + 1 + 1 := by omega
  have al_3 : w.heap.size < w1.heap.size + 1 + 1 + 1 := by omega
  have al_4 : w.heap.size < w1.heap.size + 1 + 1 + 1 + 1 := by omega
  go_wp2_with fail
  refine Calls.mono (RefRight_any t x y _) ?_
  rintro e w5 ⟨rfl, rfl⟩
  rw [HR.out]
  go_wp2_with fail
  go_ret
  exact ⟨rfl, below_trans HW (by repeat (first | exact Below.refl _ _ | assumption | (refine Below.drew ?_) | (refine below_drewN' ?_ _) | (refine below_alloc' ?_ _) | (refine Below.setCell ?_ (by first | exact Nat.le_refl _ | (simp; done) | (simp; omega)) _)))⟩

set_option maxRecDepth 100000 in
set_option maxHeartbeats 8000000 in
theorem group_e1 (t : Int) (f : Bool) (x y : Int) (vp vq : Value) (ps qs : List Int) (w : World) (hp : RdU w vp ps) (hq : RdU w vq qs) (hr : Pl.rightB t x y = true) (h1 : Pl.smallB ps = false) :
    Calls Try.prog 5 #[Mo t f x y, vp, vq] w fun e w' => e = .returned (.bool true) ∧ Below w.heap.size w w' := by
  have HR := Lib.hid hr
  clear hr
  have H1 := Lib.hid h1
  clear h1
  go_enter Try.func5, Try.ntmps5
  go_wp2_with fail
  refine Calls.mono (awake27 _) ?_
  rintro e w1 ⟨rfl, hb0⟩
  have a0 : w1.cell? ⟨w.heap.size, 0, none⟩ = some (.int .i64 t) := Below.keeps hb0 _ _ (by simp [go_sem])
  have a1 : w1.cell? ⟨w.heap.size, 1, none⟩ = some (.bool f) := Below.keeps hb0 _ _ (by simp [go_sem])
  have a2 : w1.cell? ⟨w.heap.size, 2, none⟩ = some (.int .i64 x) := Below.keeps hb0 _ _ (by simp [go_sem])
  have a3 : w1.cell? ⟨w.heap.size, 3, none⟩ = some (.int .i64 y) := Below.keeps hb0 _ _ (by simp [go_sem])
  have HB : Below w.heap.size w w1 := below_trans (by repeat (first | exact Below.refl _ _ | assumption | (refine Below.drew ?_) | (refine below_drewN' ?_ _) | (refine below_alloc' ?_ _) | (refine Below.setCell ?_ (by first | exact Nat.le_refl _ | (simp; done) | (simp; omega)) _))) hb0
  clear hb0
  have HW := HB
  clear HB
  have al : w.heap.size < w1.heap.size := World.block_lt_of_cell? w1 _ a0
  have al_1 : w.heap.size < w1.heap.size + 1 := by omega
  have al_2 : w.heap.size < w1.heap.size + 1 + 1 := by omega
  have al_3 : w.heap.size < w1.heap.size + 1 + 1 + 1 := by omega
  have al_4 : w.heap.size < w1.heap.size + 1 + 1 + 1 + 1 := by omega
  go_wp2_with fail
  refine Calls.mono (RefRight_any t x y _) ?_
  rintro e w5 ⟨rfl, rfl⟩
  rw [HR.out]
  go_wp2_with fail
  refine Calls.mono (Small_any _ ps _ ?_) ?_
  · exact RdU.below hp (below_trans HW (by repeat (first | exact Below.refl _ _ | assumption | (refine Below.drew ?_) | (refine below_drewN' ?_ _) | (refine below_alloc' ?_ _) | (refine Below.setCell ?_ (by first | exact Nat.le_refl _ | (simp; done) | (simp; omega)) _))))
  rintro e w5 ⟨rfl, rfl⟩
  rw [H1.out]
  go_wp2_with fail
  go_ret
  exact ⟨rfl, below_trans HW (by repeat (first | exact Below.refl _ _ | assumption | (refine Below.drew ?_) | (refine below_drewN' ?_ _) | (refine below_alloc' ?_ _) | (refine Below.setCell ?_ (by first | exact Nat.le_refl _ | (simp; done) | (simp; omega)) _)))⟩

set_option maxRecDepth 100000 in
set_option maxHeartbeats 8000000 in
theorem group_e2 (t : Int) (f : Bool) (x y : Int) (vp vq : Value) (ps qs : List Int) (w : World) (hp : RdU w vp ps) (hq : RdU w vq qs) (hr : Pl.rightB t x y = true) (h1 : Pl.smallB ps = true) (h2 : Pl.smallB qs = false) :
    Calls Try.prog 5 #[Mo t f x y, vp, vq] w fun e w' => e = .returned (.bool true) ∧ Below w.heap.size w w' := by
  have HR := Lib.hid hr
  clear hr
  have H1 := Lib.hid h1
  clear h1
  have H2 := Lib.hid h2
  clear h2
  go_enter Try.func5, Try.ntmps5
  go_wp2_with fail
  refine Calls.mono (awake27 _) ?_
  rintro e w1 ⟨rfl, hb0⟩
  have a0 : w1.cell? ⟨w.heap.size, 0, none⟩ = some (.int .i64 t) := Below.keeps hb0 _ _ (by simp [go_sem])
  have a1 : w1.cell? ⟨w.heap.size, 1, none⟩ = some (.bool f) := Below.keeps hb0 _ _ (by simp [go_sem])
  have a2 : w1.cell? ⟨w.heap.size, 2, none⟩ = some (.int .i64 x) := Below.keeps hb0 _ _ (by simp [go_sem])
  have a3 : w1.cell? ⟨w.heap.size, 3, none⟩ = some (.int .i64 y) := Below.keeps hb0 _ _ (by simp [go_sem])
  have HB : Below w.heap.size w w1 := below_trans (by repeat (first | exact Below.refl _ _ | assumption | (refine Below.drew ?_) | (refine below_drewN' ?_ _) | (refine below_alloc' ?_ _) | (refine Below.setCell ?_ (by first | exact Nat.le_refl _ | (simp; done) | (simp; omega)) _))) hb0
  clear hb0
  have HW := HB
  clear HB
  have al : w.heap.size < w1.heap.size := World.block_lt_of_cell? w1 _ a0
  have al_1 : w.heap.size < w1.heap.size + 1 := by omega
  have al_2 : w.heap.size < w1.heap.size + 1 + 1 := by omega
  have al_3 : w.heap.size < w1.heap.size + 1 + 1 + 1 := by omega
  have al_4 : w.heap.size < w1.heap.size + 1 + 1 + 1 + 1 := by omega
  go_wp2_with fail
  refine Calls.mono (RefRight_any t x y _) ?_
  rintro e w5 ⟨rfl, rfl⟩
  rw [HR.out]
  go_wp2_with fail
  refine Calls.mono (Small_any _ ps _ ?_) ?_
  · exact RdU.below hp (below_trans HW (by repeat (first | exact Below.refl _ _ | assumption | (refine Below.drew ?_) | (refine below_drewN' ?_ _) | (refine below_alloc' ?_ _) | (refine Below.setCell ?_ (by first | exact Nat.le_refl _ | (simp; done) | (simp; omega)) _))))
  rintro e w5 ⟨rfl, rfl⟩
  rw [H1.out]
  go_wp2_with fail
  refine Calls.mono (Small_any _ qs _ ?_) ?_
  · exact RdU.below hq (below_trans HW (by repeat (first | exact Below.refl _ _ | assumption | (refine Below.drew ?_) | (refine below_drewN' ?_ _) | (refine below_alloc' ?_ _) | (refine Below.setCell ?_ (by first | exact Nat.le_refl _ | (simp; done) | (simp; omega)) _))))
  rintro e w5 ⟨rfl, rfl⟩
  rw [H2.out]
  go_wp2_with fail
  go_ret
  exact ⟨rfl, below_trans HW (by repeat (first | exact Below.refl _ _ | assumption | (refine Below.drew ?_) | (refine below_drewN' ?_ _) | (refine below_alloc' ?_ _) | (refine Below.setCell ?_ (by first | exact Nat.le_refl _ | (simp; done) | (simp; omega)) _)))⟩

set_option maxRecDepth 100000 in
set_option maxHeartbeats 8000000 in
theorem group_long (t : Int) (f : Bool) (x y : Int) (vp vq : Value) (ps qs : List Int) (w : World) (hp : RdU w vp ps) (hq : RdU w vq qs) (hr : Pl.rightB t x y = true) (h1 : Pl.smallB ps = true) (h2 : Pl.smallB qs = true) (bt bx bY : Int) (bk : ∀ w : World, Calls Try.prog 21 #[Mo t f x y] w fun e w' => e = .returned (.tuple #[Mo bt f bx bY, .int .i64 0]) ∧ Below w.heap.size w w') (ta : ∀ w : World, Calls Try.prog 22 #[Mo t f x y, Mo bt f bx bY] w fun e w' => e = .returned (.tuple #[Mz, .int .i64 0]) ∧ Below w.heap.size w w') (tb : ∀ w : World, Calls Try.prog 22 #[Mo bt f bx bY, Mo t f x y] w fun e w' => e = .returned (.tuple #[Mz, .int .i64 0]) ∧ Below w.heap.size w w') (tk : ∀ (k : Int) (w : World), 0 ≤ k → k ≤ 3 → Calls Try.prog 22 #[Mo k false 0 0, Mo 1 false 0 0] w fun e w' => e = .returned (.tuple #[Mo ((k + 1) % 4) false 0 0, .int .i64 0]) ∧ Below w.heap.size w w') (t2 : ∀ w : World, Calls Try.prog 22 #[Mo t true 0 0, Mo t true 0 0] w fun e w' => e = .returned (.tuple #[Mz, .int .i64 0]) ∧ Below w.heap.size w w') (R : List Int) (i : Int) (mp : ∀ (w : World) (v : Value), RdU w v ps → Calls Try.prog 20 #[Mo t f x y, v] w (RetPt w ([], 11))) (mq : ∀ (w : World) (v : Value), RdU w v qs → Calls Try.prog 20 #[Mo t f x y, v] w (RetPt w (R, i))) :
    Calls Try.prog 5 #[Mo t f x y, vp, vq] w fun e w' => e = .returned (.bool true) ∧ Below w.heap.size w w' := by
  have hr' := Lib.hid hr
  have h1' := Lib.hid h1
  have h2' := Lib.hid h2
  have bk' := Lib.hid bk
  have ta' := Lib.hid ta
  have tb' := Lib.hid tb
  have tk' := Lib.hid tk
  have t2' := Lib.hid t2
  have mp' := Lib.hid mp
  have mq' := Lib.hid mq
  clear hr h1 h2 bk ta tb tk t2 mp mq
  go_enter Try.func5, Try.ntmps5
  go_wp2_with fail
  refine Calls.mono (awake27 _) ?_
  rintro e w1 ⟨rfl, hb0⟩
  have a0 : w1.cell? ⟨w.heap.size, 0, none⟩ = some (.int .i64 t) := Below.keeps hb0 _ _ (by simp [go_sem])
  have a1 : w1.cell? ⟨w.heap.size, 1, none⟩ = some (.bool f) := Below.keeps hb0 _ _ (by simp [go_sem])
  have a2 : w1.cell? ⟨w.heap.size, 2, none⟩ = some (.int .i64 x) := Below.keeps hb0 _ _ (by simp [go_sem])
  have a3 : w1.cell? ⟨w.heap.size, 3, none⟩ = some (.int .i64 y) := Below.keeps hb0 _ _ (by simp [go_sem])
  have HB : Below w.heap.size w w1 := below_trans (by repeat (first | exact Below.refl _ _ | assumption | (refine Below.drew ?_) | (refine below_drewN' ?_ _) | (refine below_alloc' ?_ _) | (refine Below.setCell ?_ (by first | exact Nat.le_refl _ | (simp; done) | (simp; omega)) _))) hb0
  clear hb0
  have HW := HB
  clear HB
  have al : w.heap.size < w1.heap.size := World.block_lt_of_cell? w1 _ a0
  have al_1 : w.heap.size < w1.heap.size + 1 := by omega
  have al_2 : w.heap.size < w1.heap.size + 1 + 1 := by omega
  have al_3 : w.heap.size < w1.heap.size + 1 + 1 + 1 := by omega
  have al_4 : w.heap.size < w1.heap.size + 1 + 1 + 1 + 1 := by omega
  go_wp2_with fail
  refine Calls.mono (RefRight_any t x y _) ?_
  rintro e w5 ⟨rfl, rfl⟩
  rw [hr'.out]
  go_wp2_with fail
  refine Calls.mono (Small_any _ ps _ ?_) ?_
  · exact RdU.below hp (below_trans HW (by repeat (first | exact Below.refl _ _ | assumption | (refine Below.drew ?_) | (refine below_drewN' ?_ _) | (refine below_alloc' ?_ _) | (refine Below.setCell ?_ (by first | exact Nat.le_refl _ | (simp; done) | (simp; omega)) _))))
  rintro e w5 ⟨rfl, rfl⟩
  rw [h1'.out]
  go_wp2_with fail
  refine Calls.mono (Small_any _ qs _ ?_) ?_
  · exact RdU.below hq (below_trans HW (by repeat (first | exact Below.refl _ _ | assumption | (refine Below.drew ?_) | (refine below_drewN' ?_ _) | (refine below_alloc' ?_ _) | (refine Below.setCell ?_ (by first | exact Nat.le_refl _ | (simp; done) | (simp; omega)) _))))
  rintro e w5 ⟨rfl, rfl⟩
  rw [h2'.out]
  go_wp2_with fail
  refine Calls.mono (bk'.out _) ?_
  rintro e w2 ⟨rfl, hb0⟩
  have HB : Below w1.heap.size w1 w2 := below_trans (by repeat (first | exact Below.refl _ _ | assumption | (refine Below.drew ?_) | (refine below_drewN' ?_ _) | (refine below_alloc' ?_ _) | (refine Below.setCell ?_ (by first | exact Nat.le_refl _ | (simp; done) | (simp; omega)) _))) hb0
  clear hb0
  replace a0 := Below.keeps HB _ _ a0
  replace a1 := Below.keeps HB _ _ a1
  replace a2 := Below.keeps HB _ _ a2
  replace a3 := Below.keeps HB _ _ a3
  replace al := Nat.lt_of_lt_of_le al HB.size
  replace HW := below_trans HW HB
  clear HB
  replace al_1 : w.heap.size < w2.heap.size + 1 := by omega
  replace al_2 : w.heap.size < w2.heap.size + 1 + 1 := by omega
  replace al_3 : w.heap.size < w2.heap.size + 1 + 1 + 1 := by omega
  replace al_4 : w.heap.size < w2.heap.size + 1 + 1 + 1 + 1 := by omega
  go_wp2_with fail
  refine Calls.mono (ta'.out _) ?_
  rintro e w3 ⟨rfl, hb0⟩
  have k0 : w3.cell? ⟨w2.heap.size, 0, none⟩ = some (.int .i64 bt) := Below.keeps hb0 _ _ (by simp [go_sem])
  have k1 : w3.cell? ⟨w2.heap.size, 1, none⟩ = some (.bool f) := Below.keeps hb0 _ _ (by simp [go_sem])
  have k2 : w3.cell? ⟨w2.heap.size, 2, none⟩ = some (.int .i64 bx) := Below.keeps hb0 _ _ (by simp [go_sem])
  have k3 : w3.cell? ⟨w2.heap.size, 3, none⟩ = some (.int .i64 bY) := Below.keeps hb0 _ _ (by simp [go_sem])
  have HB : Below w2.heap.size w2 w3 := below_trans (by repeat (first | exact Below.refl _ _ | assumption | (refine Below.drew ?_) | (refine below_drewN' ?_ _) | (refine below_alloc' ?_ _) | (refine Below.setCell ?_ (by first | exact Nat.le_refl _ | (simp; done) | (simp; omega)) _))) hb0
  clear hb0
  replace a0 := Below.keeps HB _ _ a0
  replace a1 := Below.keeps HB _ _ a1
  replace a2 := Below.keeps HB _ _ a2
  replace a3 := Below.keeps HB _ _ a3
  replace al := Nat.lt_of_lt_of_le al HB.size
  replace HW := below_trans HW HB
  clear HB
  have kl : w2.heap.size < w3.heap.size := World.block_lt_of_cell? w3 _ k0
  replace al_1 : w.heap.size < w3.heap.size + 1 := by omega
  replace al_2 : w.heap.size < w3.heap.size + 1 + 1 := by omega
  replace al_3 : w.heap.size < w3.heap.size + 1 + 1 + 1 := by omega
  replace al_4 : w.heap.size < w3.heap.size + 1 + 1 + 1 + 1 := by omega
  have kl_1 : w2.heap.size < w3.heap.size + 1 := by omega
  have kl_2 : w2.heap.size < w3.heap.size + 1 + 1 := by omega
  have kl_3 : w2.heap.size < w3.heap.size + 1 + 1 + 1 := by omega
  have kl_4 : w2.heap.size < w3.heap.size + 1 + 1 + 1 + 1 := by omega
  go_wp2_with fail
  refine Calls.mono (tb'.out _) ?_
  rintro e w4 ⟨rfl, hb0⟩
  have n0 : w4.cell? ⟨w3.heap.size, 0, none⟩ = some (.int .i64 0) := Below.keeps hb0 _ _ (by simp [go_sem])
  have n1 : w4.cell? ⟨w3.heap.size, 1, none⟩ = some (.bool false) := Below.keeps hb0 _ _ (by simp [go_sem])
  have n2 : w4.cell? ⟨w3.heap.size, 2, none⟩ = some (.int .i64 0) := Below.keeps hb0 _ _ (by simp [go_sem])
  have n3 : w4.cell? ⟨w3.heap.size, 3, none⟩ = some (.int .i64 0) := Below.keeps hb0 _ _ (by simp [go_sem])
  have HB : Below w3.heap.size w3 w4 := below_trans (by repeat (first | exact Below.refl _ _ | assumption | (refine Below.drew ?_) | (refine below_drewN' ?_ _) | (refine below_alloc' ?_ _) | (refine Below.setCell ?_ (by first | exact Nat.le_refl _ | (simp; done) | (simp; omega)) _))) hb0
  clear hb0
  replace a0 := Below.keeps HB _ _ a0
  replace a1 := Below.keeps HB _ _ a1
  replace a2 := Below.keeps HB _ _ a2
  replace a3 := Below.keeps HB _ _ a3
  replace k0 := Below.keeps HB _ _ k0
  replace k1 := Below.keeps HB _ _ k1
  replace k2 := Below.keeps HB _ _ k2
  replace k3 := Below.keeps HB _ _ k3
  replace al := Nat.lt_of_lt_of_le al HB.size
  replace kl := Nat.lt_of_lt_of_le kl HB.size
  replace HW := below_trans HW HB
  clear HB
  have nl : w3.heap.size < w4.heap.size := World.block_lt_of_cell? w4 _ n0
  replace al_1 : w.heap.size < w4.heap.size + 1 := by omega
  replace al_2 : w.heap.size < w4.heap.size + 1 + 1 := by omega
  replace al_3 : w.heap.size < w4.heap.size + 1 + 1 + 1 := by omega
  replace al_4 : w.heap.size < w4.heap.size + 1 + 1 + 1 + 1 := by omega
  replace kl_1 : w2.heap.size < w4.heap.size + 1 := by omega
  replace kl_2 : w2.heap.size < w4.heap.size + 1 + 1 := by omega
  replace kl_3 : w2.heap.size < w4.heap.size + 1 + 1 + 1 := by omega
  replace kl_4 : w2.heap.size < w4.heap.size + 1 + 1 + 1 + 1 := by omega
  have nl_1 : w3.heap.size < w4.heap.size + 1 := by omega
  have nl_2 : w3.heap.size < w4.heap.size + 1 + 1 := by omega
  have nl_3 : w3.heap.size < w4.heap.size + 1 + 1 + 1 := by omega
  have nl_4 : w3.heap.size < w4.heap.size + 1 + 1 + 1 + 1 := by omega
  go_wp2_with fail
  refine wp_loop_rounds 5 ?_
  rw [rounds_succ]
  go_wp2_with fail
  refine Calls.mono (tk'.out 0 _ (by omega) (by omega)) ?_
  rintro e w5 ⟨rfl, hb0⟩
  have s0 : w5.cell? ⟨w4.heap.size, 0, none⟩ = some (.int .i64 0) := Below.keeps hb0 _ _ (by simp [go_sem])
  have s1 : w5.cell? ⟨w4.heap.size, 1, none⟩ = some (.bool false) := Below.keeps hb0 _ _ (by simp [go_sem])
  have s2 : w5.cell? ⟨w4.heap.size, 2, none⟩ = some (.int .i64 0) := Below.keeps hb0 _ _ (by simp [go_sem])
  have s3 : w5.cell? ⟨w4.heap.size, 3, none⟩ = some (.int .i64 0) := Below.keeps hb0 _ _ (by simp [go_sem])
  have m0 : w5.cell? ⟨w4.heap.size + 1, 0, none⟩ = some (.int .i64 0) := Below.keeps hb0 _ _ (by simp [go_sem])
  have m1 : w5.cell? ⟨w4.heap.size + 1, 1, none⟩ = some (.bool false) := Below.keeps hb0 _ _ (by simp [go_sem])
  have m2 : w5.cell? ⟨w4.heap.size + 1, 2, none⟩ = some (.int .i64 0) := Below.keeps hb0 _ _ (by simp [go_sem])
  have m3 : w5.cell? ⟨w4.heap.size + 1, 3, none⟩ = some (.int .i64 0) := Below.keeps hb0 _ _ (by simp [go_sem])
  have mf : ∀ k, w5.frozen? ⟨w4.heap.size + 1, k, none⟩ = false := by intro k; rw [hb0.frozen (by first | (simp; done) | (simp; omega))]; simp [go_sem]
  have m_base : w.heap.size ≤ w4.heap.size + 1 := by have := HW.size; omega
  have al_m : ¬ w.heap.size = w4.heap.size + 1 := by omega
  have kl_m : ¬ w2.heap.size = w4.heap.size + 1 := by omega
  have nl_m : ¬ w3.heap.size = w4.heap.size + 1 := by omega
  have sl_m : ¬ w4.heap.size = w4.heap.size + 1 := by omega
  have HB : Below w4.heap.size w4 w5 := below_trans (by repeat (first | exact Below.refl _ _ | assumption | (refine Below.drew ?_) | (refine below_drewN' ?_ _) | (refine below_alloc' ?_ _) | (refine Below.setCell ?_ (by first | exact Nat.le_refl _ | (simp; done) | (simp; omega)) _))) hb0
  clear hb0
  replace a0 := Below.keeps HB _ _ a0
  replace a1 := Below.keeps HB _ _ a1
  replace a2 := Below.keeps HB _ _ a2
  replace a3 := Below.keeps HB _ _ a3
  replace k0 := Below.keeps HB _ _ k0
  replace k1 := Below.keeps HB _ _ k1
  replace k2 := Below.keeps HB _ _ k2
  replace k3 := Below.keeps HB _ _ k3
  replace n0 := Below.keeps HB _ _ n0
  replace n1 := Below.keeps HB _ _ n1
  replace n2 := Below.keeps HB _ _ n2
  replace n3 := Below.keeps HB _ _ n3
  replace al := Nat.lt_of_lt_of_le al HB.size
  replace kl := Nat.lt_of_lt_of_le kl HB.size
  replace nl := Nat.lt_of_lt_of_le nl HB.size
  replace HW := below_trans HW HB
  clear HB
  have sl : w4.heap.size < w5.heap.size := World.block_lt_of_cell? w5 _ s0
  have ml : w4.heap.size + 1 < w5.heap.size := World.block_lt_of_cell? w5 _ m0
  replace al_1 : w.heap.size < w5.heap.size + 1 := by omega
  replace al_2 : w.heap.size < w5.heap.size + 1 + 1 := by omega
  replace al_3 : w.heap.size < w5.heap.size + 1 + 1 + 1 := by omega
  replace al_4 : w.heap.size < w5.heap.size + 1 + 1 + 1 + 1 := by omega
  replace kl_1 : w2.heap.size < w5.heap.size + 1 := by omega
  replace kl_2 : w2.heap.size < w5.heap.size + 1 + 1 := by omega
  replace kl_3 : w2.heap.size < w5.heap.size + 1 + 1 + 1 := by omega
  replace kl_4 : w2.heap.size < w5.heap.size + 1 + 1 + 1 + 1 := by omega
  replace nl_1 : w3.heap.size < w5.heap.size + 1 := by omega
  replace nl_2 : w3.heap.size < w5.heap.size + 1 + 1 := by omega
  replace nl_3 : w3.heap.size < w5.heap.size + 1 + 1 + 1 := by omega
  replace nl_4 : w3.heap.size < w5.heap.size + 1 + 1 + 1 + 1 := by omega
  have sl_1 : w4.heap.size < w5.heap.size + 1 := by omega
  have sl_2 : w4.heap.size < w5.heap.size + 1 + 1 := by omega
  have sl_3 : w4.heap.size < w5.heap.size + 1 + 1 + 1 := by omega
  have sl_4 : w4.heap.size < w5.heap.size + 1 + 1 + 1 + 1 := by omega
  have ml_1 : w4.heap.size + 1 < w5.heap.size + 1 := by omega
  have ml_2 : w4.heap.size + 1 < w5.heap.size + 1 + 1 := by omega
  have ml_3 : w4.heap.size + 1 < w5.heap.size + 1 + 1 + 1 := by omega
  have ml_4 : w4.heap.size + 1 < w5.heap.size + 1 + 1 + 1 + 1 := by omega
  go_wp2_with fail
  rw [rounds_succ]
  go_wp2_with fail
  refine Calls.mono (tk'.out 1 _ (by omega) (by omega)) ?_
  rintro e w6 ⟨rfl, hb0⟩
  replace a0 : w6.cell? ⟨w.heap.size, 0, none⟩ = some (.int .i64 t) := Below.keeps hb0 _ _ (by simp [go_sem, a0, a1, a2, a3, k0, k1, k2, k3, n0, n1, n2, n3, s0, s1, s2, s3, m0, m1, m2, m3, mf, al_m, kl_m, nl_m, sl_m])
  replace a1 : w6.cell? ⟨w.heap.size, 1, none⟩ = some (.bool f) := Below.keeps hb0 _ _ (by simp [go_sem, a0, a1, a2, a3, k0, k1, k2, k3, n0, n1, n2, n3, s0, s1, s2, s3, m0, m1, m2, m3, mf, al_m, kl_m, nl_m, sl_m])
  replace a2 : w6.cell? ⟨w.heap.size, 2, none⟩ = some (.int .i64 x) := Below.keeps hb0 _ _ (by simp [go_sem, a0, a1, a2, a3, k0, k1, k2, k3, n0, n1, n2, n3, s0, s1, s2, s3, m0, m1, m2, m3, mf, al_m, kl_m, nl_m, sl_m])
  replace a3 : w6.cell? ⟨w.heap.size, 3, none⟩ = some (.int .i64 y) := Below.keeps hb0 _ _ (by simp [go_sem, a0, a1, a2, a3, k0, k1, k2, k3, n0, n1, n2, n3, s0, s1, s2, s3, m0, m1, m2, m3, mf, al_m, kl_m, nl_m, sl_m])
  replace k0 : w6.cell? ⟨w2.heap.size, 0, none⟩ = some (.int .i64 bt) := Below.keeps hb0 _ _ (by simp [go_sem, a0, a1, a2, a3, k0, k1, k2, k3, n0, n1, n2, n3, s0, s1, s2, s3, m0, m1, m2, m3, mf, al_m, kl_m, nl_m, sl_m])
  replace k1 : w6.cell? ⟨w2.heap.size, 1, none⟩ = some (.bool f) := Below.keeps hb0 _ _ (by simp [go_sem, a0, a1, a2, a3, k0, k1, k2, k3, n0, n1, n2, n3, s0, s1, s2, s3, m0, m1, m2, m3, mf, al_m, kl_m, nl_m, sl_m])
  replace k2 : w6.cell? ⟨w2.heap.size, 2, none⟩ = some (.int .i64 bx) := Below.keeps hb0 _ _ (by simp [go_sem, a0, a1, a2, a3, k0, k1, k2, k3, n0, n1, n2, n3, s0, s1, s2, s3, m0, m1, m2, m3, mf, al_m, kl_m, nl_m, sl_m])
  replace k3 : w6.cell? ⟨w2.heap.size, 3, none⟩ = some (.int .i64 bY) := Below.keeps hb0 _ _ (by simp [go_sem, a0, a1, a2, a3, k0, k1, k2, k3, n0, n1, n2, n3, s0, s1, s2, s3, m0, m1, m2, m3, mf, al_m, kl_m, nl_m, sl_m])
  replace n0 : w6.cell? ⟨w3.heap.size, 0, none⟩ = some (.int .i64 0) := Below.keeps hb0 _ _ (by simp [go_sem, a0, a1, a2, a3, k0, k1, k2, k3, n0, n1, n2, n3, s0, s1, s2, s3, m0, m1, m2, m3, mf, al_m, kl_m, nl_m, sl_m])
  replace n1 : w6.cell? ⟨w3.heap.size, 1, none⟩ = some (.bool false) := Below.keeps hb0 _ _ (by simp [go_sem, a0, a1, a2, a3, k0, k1, k2, k3, n0, n1, n2, n3, s0, s1, s2, s3, m0, m1, m2, m3, mf, al_m, kl_m, nl_m, sl_m])
  replace n2 : w6.cell? ⟨w3.heap.size, 2, none⟩ = some (.int .i64 0) := Below.keeps hb0 _ _ (by simp [go_sem, a0, a1, a2, a3, k0, k1, k2, k3, n0, n1, n2, n3, s0, s1, s2, s3, m0, m1, m2, m3, mf, al_m, kl_m, nl_m, sl_m])
  replace n3 : w6.cell? ⟨w3.heap.size, 3, none⟩ = some (.int .i64 0) := Below.keeps hb0 _ _ (by simp [go_sem, a0, a1, a2, a3, k0, k1, k2, k3, n0, n1, n2, n3, s0, s1, s2, s3, m0, m1, m2, m3, mf, al_m, kl_m, nl_m, sl_m])
  replace s0 : w6.cell? ⟨w4.heap.size, 0, none⟩ = some (.int .i64 0) := Below.keeps hb0 _ _ (by simp [go_sem, a0, a1, a2, a3, k0, k1, k2, k3, n0, n1, n2, n3, s0, s1, s2, s3, m0, m1, m2, m3, mf, al_m, kl_m, nl_m, sl_m])
  replace s1 : w6.cell? ⟨w4.heap.size, 1, none⟩ = some (.bool false) := Below.keeps hb0 _ _ (by simp [go_sem, a0, a1, a2, a3, k0, k1, k2, k3, n0, n1, n2, n3, s0, s1, s2, s3, m0, m1, m2, m3, mf, al_m, kl_m, nl_m, sl_m])
  replace s2 : w6.cell? ⟨w4.heap.size, 2, none⟩ = some (.int .i64 0) := Below.keeps hb0 _ _ (by simp [go_sem, a0, a1, a2, a3, k0, k1, k2, k3, n0, n1, n2, n3, s0, s1, s2, s3, m0, m1, m2, m3, mf, al_m, kl_m, nl_m, sl_m])
  replace s3 : w6.cell? ⟨w4.heap.size, 3, none⟩ = some (.int .i64 0) := Below.keeps hb0 _ _ (by simp [go_sem, a0, a1, a2, a3, k0, k1, k2, k3, n0, n1, n2, n3, s0, s1, s2, s3, m0, m1, m2, m3, mf, al_m, kl_m, nl_m, sl_m])
  have m0' : w6.cell? ⟨w4.heap.size + 1, 0, none⟩ = some (.int .i64 1) := Below.keeps hb0 _ _ (by simp [go_sem, a0, a1, a2, a3, k0, k1, k2, k3, n0, n1, n2, n3, s0, s1, s2, s3, m0, m1, m2, m3, mf, al_m, kl_m, nl_m, sl_m])
  have m1' : w6.cell? ⟨w4.heap.size + 1, 1, none⟩ = some (.bool false) := Below.keeps hb0 _ _ (by simp [go_sem, a0, a1, a2, a3, k0, k1, k2, k3, n0, n1, n2, n3, s0, s1, s2, s3, m0, m1, m2, m3, mf, al_m, kl_m, nl_m, sl_m])
  have m2' : w6.cell? ⟨w4.heap.size + 1, 2, none⟩ = some (.int .i64 0) := Below.keeps hb0 _ _ (by simp [go_sem, a0, a1, a2, a3, k0, k1, k2, k3, n0, n1, n2, n3, s0, s1, s2, s3, m0, m1, m2, m3, mf, al_m, kl_m, nl_m, sl_m])
  have m3' : w6.cell? ⟨w4.heap.size + 1, 3, none⟩ = some (.int .i64 0) := Below.keeps hb0 _ _ (by simp [go_sem, a0, a1, a2, a3, k0, k1, k2, k3, n0, n1, n2, n3, s0, s1, s2, s3, m0, m1, m2, m3, mf, al_m, kl_m, nl_m, sl_m])
  replace m0 := m0'
  clear m0'
  replace m1 := m1'
  clear m1'
  replace m2 := m2'
  clear m2'
  replace m3 := m3'
  clear m3'
  replace mf : ∀ k, w6.frozen? ⟨w4.heap.size + 1, k, none⟩ = false := by intro k; rw [hb0.frozen (by first | (simp; done) | (simp; omega))]; simp [go_sem, mf]
  have hsz : w5.heap.size ≤ w6.heap.size := Nat.le_trans (by simp) hb0.size
  replace al := Nat.lt_of_lt_of_le al hsz
  replace kl := Nat.lt_of_lt_of_le kl hsz
  replace nl := Nat.lt_of_lt_of_le nl hsz
  replace sl := Nat.lt_of_lt_of_le sl hsz
  replace ml := Nat.lt_of_lt_of_le ml hsz
  replace HW : Below w.heap.size w w6 := below_trans (by repeat (first | exact HW | (refine Below.drew ?_) | (refine below_drewN' ?_ _) | (refine below_alloc' ?_ _) | (refine Below.setCell ?_ (by first | exact Nat.le_refl _ | (simp; done) | (simp; omega) | omega) _))) hb0
  clear hb0 hsz
  replace al_1 : w.heap.size < w6.heap.size + 1 := by omega
  replace al_2 : w.heap.size < w6.heap.size + 1 + 1 := by omega
  replace al_3 : w.heap.size < w6.heap.size + 1 + 1 + 1 := by omega
  replace al_4 : w.heap.size < w6.heap.size + 1 + 1 + 1 + 1 := by omega
  replace kl_1 : w2.heap.size < w6.heap.size + 1 := by omega
  replace kl_2 : w2.heap.size < w6.heap.size + 1 + 1 := by omega
  replace kl_3 : w2.heap.size < w6.heap.size + 1 + 1 + 1 := by omega
  replace kl_4 : w2.heap.size < w6.heap.size + 1 + 1 + 1 + 1 := by omega
  replace nl_1 : w3.heap.size < w6.heap.size + 1 := by omega
  replace nl_2 : w3.heap.size < w6.heap.size + 1 + 1 := by omega
  replace nl_3 : w3.heap.size < w6.heap.size + 1 + 1 + 1 := by omega
  replace nl_4 : w3.heap.size < w6.heap.size + 1 + 1 + 1 + 1 := by omega
  replace sl_1 : w4.heap.size < w6.heap.size + 1 := by omega
  replace sl_2 : w4.heap.size < w6.heap.size + 1 + 1 := by omega
  replace sl_3 : w4.heap.size < w6.heap.size + 1 + 1 + 1 := by omega
  replace sl_4 : w4.heap.size < w6.heap.size + 1 + 1 + 1 + 1 := by omega
  replace ml_1 : w4.heap.size + 1 < w6.heap.size + 1 := by omega
  replace ml_2 : w4.heap.size + 1 < w6.heap.size + 1 + 1 := by omega
  replace ml_3 : w4.heap.size + 1 < w6.heap.size + 1 + 1 + 1 := by omega
  replace ml_4 : w4.heap.size + 1 < w6.heap.size + 1 + 1 + 1 + 1 := by omega
  go_wp2_with fail
  rw [rounds_succ]
  go_wp2_with fail
  refine Calls.mono (tk'.out 2 _ (by omega) (by omega)) ?_
  rintro e w7 ⟨rfl, hb0⟩
  replace a0 : w7.cell? ⟨w.heap.size, 0, none⟩ = some (.int .i64 t) := Below.keeps hb0 _ _ (by simp [go_sem, a0, a1, a2, a3, k0, k1, k2, k3, n0, n1, n2, n3, s0, s1, s2, s3, m0, m1, m2, m3, mf, al_m, kl_m, nl_m, sl_m])
  replace a1 : w7.cell? ⟨w.heap.size, 1, none⟩ = some (.bool f) := Below.keeps hb0 _ _ (by simp [go_sem, a0, a1, a2, a3, k0, k1, k2, k3, n0, n1, n2, n3, s0, s1, s2, s3, m0, m1, m2, m3, mf, al_m, kl_m, nl_m, sl_m])
  replace a2 : w7.cell? ⟨w.heap.size, 2, none⟩ = some (.int .i64 x) := Below.keeps hb0 _ _ (by simp [go_sem, a0, a1, a2, a3, k0, k1, k2, k3, n0, n1, n2, n3, s0, s1, s2, s3, m0, m1, m2, m3, mf, al_m, kl_m, nl_m, sl_m])
  replace a3 : w7.cell? ⟨w.heap.size, 3, none⟩ = some (.int .i64 y) := Below.keeps hb0 _ _ (by simp [go_sem, a0, a1, a2, a3, k0, k1, k2, k3, n0, n1, n2, n3, s0, s1, s2, s3, m0, m1, m2, m3, mf, al_m, kl_m, nl_m, sl_m])
  replace k0 : w7.cell? ⟨w2.heap.size, 0, none⟩ = some (.int .i64 bt) := Below.keeps hb0 _ _ (by simp [go_sem, a0, a1, a2, a3, k0, k1, k2, k3, n0, n1, n2, n3, s0, s1, s2, s3, m0, m1, m2, m3, mf, al_m, kl_m, nl_m, sl_m])
  replace k1 : w7.cell? ⟨w2.heap.size, 1, none⟩ = some (.bool f) := Below.keeps hb0 _ _ (by simp [go_sem, a0, a1, a2, a3, k0, k1, k2, k3, n0, n1, n2, n3, s0, s1, s2, s3, m0, m1, m2, m3, mf, al_m, kl_m, nl_m, sl_m])
  replace k2 : w7.cell? ⟨w2.heap.size, 2, none⟩ = some (.int .i64 bx) := Below.keeps hb0 _ _ (by simp [go_sem, a0, a1, a2, a3, k0, k1, k2, k3, n0, n1, n2, n3, s0, s1, s2, s3, m0, m1, m2, m3, mf, al_m, kl_m, nl_m, sl_m])
  replace k3 : w7.cell? ⟨w2.heap.size, 3, none⟩ = some (.int .i64 bY) := Below.keeps hb0 _ _ (by simp [go_sem, a0, a1, a2, a3, k0, k1, k2, k3, n0, n1, n2, n3, s0, s1, s2, s3, m0, m1, m2, m3, mf, al_m, kl_m, nl_m, sl_m])
  replace n0 : w7.cell? ⟨w3.heap.size, 0, none⟩ = some (.int .i64 0) := Below.keeps hb0 _ _ (by simp [go_sem, a0, a1, a2, a3, k0, k1, k2, k3, n0, n1, n2, n3, s0, s1, s2, s3, m0, m1, m2, m3, mf, al_m, kl_m, nl_m, sl_m])
  replace n1 : w7.cell? ⟨w3.heap.size, 1, none⟩ = some (.bool false) := Below.keeps hb0 _ _ (by simp [go_sem, a0, a1, a2, a3, k0, k1, k2, k3, n0, n1, n2, n3, s0, s1, s2, s3, m0, m1, m2, m3, mf, al_m, kl_m, nl_m, sl_m])
  replace n2 : w7.cell? ⟨w3.heap.size, 2, none⟩ = some (.int .i64 0) := Below.keeps hb0 _ _ (by simp [go_sem, a0, a1, a2, a3, k0, k1, k2, k3, n0, n1, n2, n3, s0, s1, s2, s3, m0, m1, m2, m3, mf, al_m, kl_m, nl_m, sl_m])
  replace n3 : w7.cell? ⟨w3.heap.size, 3, none⟩ = some (.int .i64 0) := Below.keeps hb0 _ _ (by simp [go_sem, a0, a1, a2, a3, k0, k1, k2, k3, n0, n1, n2, n3, s0, s1, s2, s3, m0, m1, m2, m3, mf, al_m, kl_m, nl_m, sl_m])
  replace s0 : w7.cell? ⟨w4.heap.size, 0, none⟩ = some (.int .i64 0) := Below.keeps hb0 _ _ (by simp [go_sem, a0, a1, a2, a3, k0, k1, k2, k3, n0, n1, n2, n3, s0, s1, s2, s3, m0, m1, m2, m3, mf, al_m, kl_m, nl_m, sl_m])
  replace s1 : w7.cell? ⟨w4.heap.size, 1, none⟩ = some (.bool false) := Below.keeps hb0 _ _ (by simp [go_sem, a0, a1, a2, a3, k0, k1, k2, k3, n0, n1, n2, n3, s0, s1, s2, s3, m0, m1, m2, m3, mf, al_m, kl_m, nl_m, sl_m])
  replace s2 : w7.cell? ⟨w4.heap.size, 2, none⟩ = some (.int .i64 0) := Below.keeps hb0 _ _ (by simp [go_sem, a0, a1, a2, a3, k0, k1, k2, k3, n0, n1, n2, n3, s0, s1, s2, s3, m0, m1, m2, m3, mf, al_m, kl_m, nl_m, sl_m])
  replace s3 : w7.cell? ⟨w4.heap.size, 3, none⟩ = some (.int .i64 0) := Below.keeps hb0 _ _ (by simp [go_sem, a0, a1, a2, a3, k0, k1, k2, k3, n0, n1, n2, n3, s0, s1, s2, s3, m0, m1, m2, m3, mf, al_m, kl_m, nl_m, sl_m])
  have m0' : w7.cell? ⟨w4.heap.size + 1, 0, none⟩ = some (.int .i64 2) := Below.keeps hb0 _ _ (by simp [go_sem, a0, a1, a2, a3, k0, k1, k2, k3, n0, n1, n2, n3, s0, s1, s2, s3, m0, m1, m2, m3, mf, al_m, kl_m, nl_m, sl_m])
  have m1' : w7.cell? ⟨w4.heap.size + 1, 1, none⟩ = some (.bool false) := Below.keeps hb0 _ _ (by simp [go_sem, a0, a1, a2, a3, k0, k1, k2, k3, n0, n1, n2, n3, s0, s1, s2, s3, m0, m1, m2, m3, mf, al_m, kl_m, nl_m, sl_m])
  have m2' : w7.cell? ⟨w4.heap.size + 1, 2, none⟩ = some (.int .i64 0) := Below.keeps hb0 _ _ (by simp [go_sem, a0, a1, a2, a3, k0, k1, k2, k3, n0, n1, n2, n3, s0, s1, s2, s3, m0, m1, m2, m3, mf, al_m, kl_m, nl_m, sl_m])
  have m3' : w7.cell? ⟨w4.heap.size + 1, 3, none⟩ = some (.int .i64 0) := Below.keeps hb0 _ _ (by simp [go_sem, a0, a1, a2, a3, k0, k1, k2, k3, n0, n1, n2, n3, s0, s1, s2, s3, m0, m1, m2, m3, mf, al_m, kl_m, nl_m, sl_m])
  replace m0 := m0'
  clear m0'
  replace m1 := m1'
  clear m1'
  replace m2 := m2'
  clear m2'
  replace m3 := m3'
  clear m3'
  replace mf : ∀ k, w7.frozen? ⟨w4.heap.size + 1, k, none⟩ = false := by intro k; rw [hb0.frozen (by first | (simp; done) | (simp; omega))]; simp [go_sem, mf]
  have hsz : w6.heap.size ≤ w7.heap.size := Nat.le_trans (by simp) hb0.size
  replace al := Nat.lt_of_lt_of_le al hsz
  replace kl := Nat.lt_of_lt_of_le kl hsz
  replace nl := Nat.lt_of_lt_of_le nl hsz
  replace sl := Nat.lt_of_lt_of_le sl hsz
  replace ml := Nat.lt_of_lt_of_le ml hsz
  replace HW : Below w.heap.size w w7 := below_trans (by repeat (first | exact HW | (refine Below.drew ?_) | (refine below_drewN' ?_ _) | (refine below_alloc' ?_ _) | (refine Below.setCell ?_ (by first | exact Nat.le_refl _ | (simp; done) | (simp; omega) | omega) _))) hb0
  clear hb0 hsz
  replace al_1 : w.heap.size < w7.heap.size + 1 := by omega
  replace al_2 : w.heap.size < w7.heap.size + 1 + 1 := by omega
  replace al_3 : w.heap.size < w7.heap.size + 1 + 1 + 1 := by omega
  replace al_4 : w.heap.size < w7.heap.size + 1 + 1 + 1 + 1 := by omega
  replace kl_1 : w2.heap.size < w7.heap.size + 1 := by omega
  replace kl_2 : w2.heap.size < w7.heap.size + 1 + 1 := by omega
  replace kl_3 : w2.heap.size < w7.heap.size + 1 + 1 + 1 := by omega
  replace kl_4 : w2.heap.size < w7.heap.size + 1 + 1 + 1 + 1 := by omega
  replace nl_1 : w3.heap.size < w7.heap.size + 1 := by omega
  replace nl_2 : w3.heap.size < w7.heap.size + 1 + 1 := by omega
  replace nl_3 : w3.heap.size < w7.heap.size + 1 + 1 + 1 := by omega
  replace nl_4 : w3.heap.size < w7.heap.size + 1 + 1 + 1 + 1 := by omega
  replace sl_1 : w4.heap.size < w7.heap.size + 1 := by omega
  replace sl_2 : w4.heap.size < w7.heap.size + 1 + 1 := by omega
  replace sl_3 : w4.heap.size < w7.heap.size + 1 + 1 + 1 := by omega
  replace sl_4 : w4.heap.size < w7.heap.size + 1 + 1 + 1 + 1 := by omega
  replace ml_1 : w4.heap.size + 1 < w7.heap.size + 1 := by omega
  replace ml_2 : w4.heap.size + 1 < w7.heap.size + 1 + 1 := by omega
  replace ml_3 : w4.heap.size + 1 < w7.heap.size + 1 + 1 + 1 := by omega
  replace ml_4 : w4.heap.size + 1 < w7.heap.size + 1 + 1 + 1 + 1 := by omega
  go_wp2_with fail
  rw [rounds_succ]
  go_wp2_with fail
  refine Calls.mono (tk'.out 3 _ (by omega) (by omega)) ?_
  rintro e w8 ⟨rfl, hb0⟩
  replace a0 : w8.cell? ⟨w.heap.size, 0, none⟩ = some (.int .i64 t) := Below.keeps hb0 _ _ (by simp [go_sem, a0, a1, a2, a3, k0, k1, k2, k3, n0, n1, n2, n3, s0, s1, s2, s3, m0, m1, m2, m3, mf, al_m, kl_m, nl_m, sl_m])
  replace a1 : w8.cell? ⟨w.heap.size, 1, none⟩ = some (.bool f) := Below.keeps hb0 _ _ (by simp [go_sem, a0, a1, a2, a3, k0, k1, k2, k3, n0, n1, n2, n3, s0, s1, s2, s3, m0, m1, m2, m3, mf, al_m, kl_m, nl_m, sl_m])
  replace a2 : w8.cell? ⟨w.heap.size, 2, none⟩ = some (.int .i64 x) := Below.keeps hb0 _ _ (by simp [go_sem, a0, a1, a2, a3, k0, k1, k2, k3, n0, n1, n2, n3, s0, s1, s2, s3, m0, m1, m2, m3, mf, al_m, kl_m, nl_m, sl_m])
  replace a3 : w8.cell? ⟨w.heap.size, 3, none⟩ = some (.int .i64 y) := Below.keeps hb0 _ _ (by simp [go_sem, a0, a1, a2, a3, k0, k1, k2, k3, n0, n1, n2, n3, s0, s1, s2, s3, m0, m1, m2, m3, mf, al_m, kl_m, nl_m, sl_m])
  replace k0 : w8.cell? ⟨w2.heap.size, 0, none⟩ = some (.int .i64 bt) := Below.keeps hb0 _ _ (by simp [go_sem, a0, a1, a2, a3, k0, k1, k2, k3, n0, n1, n2, n3, s0, s1, s2, s3, m0, m1, m2, m3, mf, al_m, kl_m, nl_m, sl_m])
  replace k1 : w8.cell? ⟨w2.heap.size, 1, none⟩ = some (.bool f) := Below.keeps hb0 _ _ (by simp [go_sem, a0, a1, a2, a3, k0, k1, k2, k3, n0, n1, n2, n3, s0, s1, s2, s3, m0, m1, m2, m3, mf, al_m, kl_m, nl_m, sl_m])
  replace k2 : w8.cell? ⟨w2.heap.size, 2, none⟩ = some (.int .i64 bx) := Below.keeps hb0 _ _ (by simp [go_sem, a0, a1, a2, a3, k0, k1, k2, k3, n0, n1, n2, n3, s0, s1, s2, s3, m0, m1, m2, m3, mf, al_m, kl_m, nl_m, sl_m])
  replace k3 : w8.cell? ⟨w2.heap.size, 3, none⟩ = some (.int .i64 bY) := Below.keeps hb0 _ _ (by simp [go_sem, a0, a1, a2, a3, k0, k1, k2, k3, n0, n1, n2, n3, s0, s1, s2, s3, m0, m1, m2, m3, mf, al_m, kl_m, nl_m, sl_m])
  replace n0 : w8.cell? ⟨w3.heap.size, 0, none⟩ = some (.int .i64 0) := Below.keeps hb0 _ _ (by simp [go_sem, a0, a1, a2, a3, k0, k1, k2, k3, n0, n1, n2, n3, s0, s1, s2, s3, m0, m1, m2, m3, mf, al_m, kl_m, nl_m, sl_m])
  replace n1 : w8.cell? ⟨w3.heap.size, 1, none⟩ = some (.bool false) := Below.keeps hb0 _ _ (by simp [go_sem, a0, a1, a2, a3, k0, k1, k2, k3, n0, n1, n2, n3, s0, s1, s2, s3, m0, m1, m2, m3, mf, al_m, kl_m, nl_m, sl_m])
  replace n2 : w8.cell? ⟨w3.heap.size, 2, none⟩ = some (.int .i64 0) := Below.keeps hb0 _ _ (by simp [go_sem, a0, a1, a2, a3, k0, k1, k2, k3, n0, n1, n2, n3, s0, s1, s2, s3, m0, m1, m2, m3, mf, al_m, kl_m, nl_m, sl_m])
  replace n3 : w8.cell? ⟨w3.heap.size, 3, none⟩ = some (.int .i64 0) := Below.keeps hb0 _ _ (by simp [go_sem, a0, a1, a2, a3, k0, k1, k2, k3, n0, n1, n2, n3, s0, s1, s2, s3, m0, m1, m2, m3, mf, al_m, kl_m, nl_m, sl_m])
  replace s0 : w8.cell? ⟨w4.heap.size, 0, none⟩ = some (.int .i64 0) := Below.keeps hb0 _ _ (by simp [go_sem, a0, a1, a2, a3, k0, k1, k2, k3, n0, n1, n2, n3, s0, s1, s2, s3, m0, m1, m2, m3, mf, al_m, kl_m, nl_m, sl_m])
  replace s1 : w8.cell? ⟨w4.heap.size, 1, none⟩ = some (.bool false) := Below.keeps hb0 _ _ (by simp [go_sem, a0, a1, a2, a3, k0, k1, k2, k3, n0, n1, n2, n3, s0, s1, s2, s3, m0, m1, m2, m3, mf, al_m, kl_m, nl_m, sl_m])
  replace s2 : w8.cell? ⟨w4.heap.size, 2, none⟩ = some (.int .i64 0) := Below.keeps hb0 _ _ (by simp [go_sem, a0, a1, a2, a3, k0, k1, k2, k3, n0, n1, n2, n3, s0, s1, s2, s3, m0, m1, m2, m3, mf, al_m, kl_m, nl_m, sl_m])
  replace s3 : w8.cell? ⟨w4.heap.size, 3, none⟩ = some (.int .i64 0) := Below.keeps hb0 _ _ (by simp [go_sem, a0, a1, a2, a3, k0, k1, k2, k3, n0, n1, n2, n3, s0, s1, s2, s3, m0, m1, m2, m3, mf, al_m, kl_m, nl_m, sl_m])
  have m0' : w8.cell? ⟨w4.heap.size + 1, 0, none⟩ = some (.int .i64 3) := Below.keeps hb0 _ _ (by simp [go_sem, a0, a1, a2, a3, k0, k1, k2, k3, n0, n1, n2, n3, s0, s1, s2, s3, m0, m1, m2, m3, mf, al_m, kl_m, nl_m, sl_m])
  have m1' : w8.cell? ⟨w4.heap.size + 1, 1, none⟩ = some (.bool false) := Below.keeps hb0 _ _ (by simp [go_sem, a0, a1, a2, a3, k0, k1, k2, k3, n0, n1, n2, n3, s0, s1, s2, s3, m0, m1, m2, m3, mf, al_m, kl_m, nl_m, sl_m])
  have m2' : w8.cell? ⟨w4.heap.size + 1, 2, none⟩ = some (.int .i64 0) := Below.keeps hb0 _ _ (by simp [go_sem, a0, a1, a2, a3, k0, k1, k2, k3, n0, n1, n2, n3, s0, s1, s2, s3, m0, m1, m2, m3, mf, al_m, kl_m, nl_m, sl_m])
  have m3' : w8.cell? ⟨w4.heap.size + 1, 3, none⟩ = some (.int .i64 0) := Below.keeps hb0 _ _ (by simp [go_sem, a0, a1, a2, a3, k0, k1, k2, k3, n0, n1, n2, n3, s0, s1, s2, s3, m0, m1, m2, m3, mf, al_m, kl_m, nl_m, sl_m])
  replace m0 := m0'
  clear m0'
  replace m1 := m1'
  clear m1'
  replace m2 := m2'
  clear m2'
  replace m3 := m3'
  clear m3'
  replace mf : ∀ k, w8.frozen? ⟨w4.heap.size + 1, k, none⟩ = false := by intro k; rw [hb0.frozen (by first | (simp; done) | (simp; omega))]; simp [go_sem, mf]
  have hsz : w7.heap.size ≤ w8.heap.size := Nat.le_trans (by simp) hb0.size
  replace al := Nat.lt_of_lt_of_le al hsz
  replace kl := Nat.lt_of_lt_of_le kl hsz
  replace nl := Nat.lt_of_lt_of_le nl hsz
  replace sl := Nat.lt_of_lt_of_le sl hsz
  replace ml := Nat.lt_of_lt_of_le ml hsz
  replace HW : Below w.heap.size w w8 := below_trans (by repeat (first | exact HW | (refine Below.drew ?_) | (refine below_drewN' ?_ _) | (refine below_alloc' ?_ _) | (refine Below.setCell ?_ (by first | exact Nat.le_refl _ | (simp; done) | (simp; omega) | omega) _))) hb0
  clear hb0 hsz
  replace al_1 : w.heap.size < w8.heap.size + 1 := by omega
  replace al_2 : w.heap.size < w8.heap.size + 1 + 1 := by omega
  replace al_3 : w.heap.size < w8.heap.size + 1 + 1 + 1 := by omega
  replace al_4 : w.heap.size < w8.heap.size + 1 + 1 + 1 + 1 := by omega
  replace kl_1 : w2.heap.size < w8.heap.size + 1 := by omega
  replace kl_2 : w2.heap.size < w8.heap.size + 1 + 1 := by omega
  replace kl_3 : w2.heap.size < w8.heap.size + 1 + 1 + 1 := by omega
  replace kl_4 : w2.heap.size < w8.heap.size + 1 + 1 + 1 + 1 := by omega
  replace nl_1 : w3.heap.size < w8.heap.size + 1 := by omega
  replace nl_2 : w3.heap.size < w8.heap.size + 1 + 1 := by omega
  replace nl_3 : w3.heap.size < w8.heap.size + 1 + 1 + 1 := by omega
  replace nl_4 : w3.heap.size < w8.heap.size + 1 + 1 + 1 + 1 := by omega
  replace sl_1 : w4.heap.size < w8.heap.size + 1 := by omega
  replace sl_2 : w4.heap.size < w8.heap.size + 1 + 1 := by omega
  replace sl_3 : w4.heap.size < w8.heap.size + 1 + 1 + 1 := by omega
  replace sl_4 : w4.heap.size < w8.heap.size + 1 + 1 + 1 + 1 := by omega
  replace ml_1 : w4.heap.size + 1 < w8.heap.size + 1 := by omega
  replace ml_2 : w4.heap.size + 1 < w8.heap.size + 1 + 1 := by omega
  replace ml_3 : w4.heap.size + 1 < w8.heap.size + 1 + 1 + 1 := by omega
  replace ml_4 : w4.heap.size + 1 < w8.heap.size + 1 + 1 + 1 + 1 := by omega
  go_wp2_with fail
  rw [rounds_succ]
  go_wp2_with fail
  refine Calls.mono (t2'.out _) ?_
  rintro e w9 ⟨rfl, hb0⟩
  replace a0 : w9.cell? ⟨w.heap.size, 0, none⟩ = some (.int .i64 t) := Below.keeps hb0 _ _ (by simp [go_sem, a0, a1, a2, a3, k0, k1, k2, k3, n0, n1, n2, n3, s0, s1, s2, s3, m0, m1, m2, m3, mf, al_m, kl_m, nl_m, sl_m])
  replace a1 : w9.cell? ⟨w.heap.size, 1, none⟩ = some (.bool f) := Below.keeps hb0 _ _ (by simp [go_sem, a0, a1, a2, a3, k0, k1, k2, k3, n0, n1, n2, n3, s0, s1, s2, s3, m0, m1, m2, m3, mf, al_m, kl_m, nl_m, sl_m])
  replace a2 : w9.cell? ⟨w.heap.size, 2, none⟩ = some (.int .i64 x) := Below.keeps hb0 _ _ (by simp [go_sem, a0, a1, a2, a3, k0, k1, k2, k3, n0, n1, n2, n3, s0, s1, s2, s3, m0, m1, m2, m3, mf, al_m, kl_m, nl_m, sl_m])
  replace a3 : w9.cell? ⟨w.heap.size, 3, none⟩ = some (.int .i64 y) := Below.keeps hb0 _ _ (by simp [go_sem, a0, a1, a2, a3, k0, k1, k2, k3, n0, n1, n2, n3, s0, s1, s2, s3, m0, m1, m2, m3, mf, al_m, kl_m, nl_m, sl_m])
  replace k0 : w9.cell? ⟨w2.heap.size, 0, none⟩ = some (.int .i64 bt) := Below.keeps hb0 _ _ (by simp [go_sem, a0, a1, a2, a3, k0, k1, k2, k3, n0, n1, n2, n3, s0, s1, s2, s3, m0, m1, m2, m3, mf, al_m, kl_m, nl_m, sl_m])
  replace k1 : w9.cell? ⟨w2.heap.size, 1, none⟩ = some (.bool f) := Below.keeps hb0 _ _ (by simp [go_sem, a0, a1, a2, a3, k0, k1, k2, k3, n0, n1, n2, n3, s0, s1, s2, s3, m0, m1, m2, m3, mf, al_m, kl_m, nl_m, sl_m])
  replace k2 : w9.cell? ⟨w2.heap.size, 2, none⟩ = some (.int .i64 bx) := Below.keeps hb0 _ _ (by simp [go_sem, a0, a1, a2, a3, k0, k1, k2, k3, n0, n1, n2, n3, s0, s1, s2, s3, m0, m1, m2, m3, mf, al_m, kl_m, nl_m, sl_m])
  replace k3 : w9.cell? ⟨w2.heap.size, 3, none⟩ = some (.int .i64 bY) := Below.keeps hb0 _ _ (by simp [go_sem, a0, a1, a2, a3, k0, k1, k2, k3, n0, n1, n2, n3, s0, s1, s2, s3, m0, m1, m2, m3, mf, al_m, kl_m, nl_m, sl_m])
  replace n0 : w9.cell? ⟨w3.heap.size, 0, none⟩ = some (.int .i64 0) := Below.keeps hb0 _ _ (by simp [go_sem, a0, a1, a2, a3, k0, k1, k2, k3, n0, n1, n2, n3, s0, s1, s2, s3, m0, m1, m2, m3, mf, al_m, kl_m, nl_m, sl_m])
  replace n1 : w9.cell? ⟨w3.heap.size, 1, none⟩ = some (.bool false) := Below.keeps hb0 _ _ (by simp [go_sem, a0, a1, a2, a3, k0, k1, k2, k3, n0, n1, n2, n3, s0, s1, s2, s3, m0, m1, m2, m3, mf, al_m, kl_m, nl_m, sl_m])
  replace n2 : w9.cell? ⟨w3.heap.size, 2, none⟩ = some (.int .i64 0) := Below.keeps hb0 _ _ (by simp [go_sem, a0, a1, a2, a3, k0, k1, k2, k3, n0, n1, n2, n3, s0, s1, s2, s3, m0, m1, m2, m3, mf, al_m, kl_m, nl_m, sl_m])
  replace n3 : w9.cell? ⟨w3.heap.size, 3, none⟩ = some (.int .i64 0) := Below.keeps hb0 _ _ (by simp [go_sem, a0, a1, a2, a3, k0, k1, k2, k3, n0, n1, n2, n3, s0, s1, s2, s3, m0, m1, m2, m3, mf, al_m, kl_m, nl_m, sl_m])
  replace s0 : w9.cell? ⟨w4.heap.size, 0, none⟩ = some (.int .i64 0) := Below.keeps hb0 _ _ (by simp [go_sem, a0, a1, a2, a3, k0, k1, k2, k3, n0, n1, n2, n3, s0, s1, s2, s3, m0, m1, m2, m3, mf, al_m, kl_m, nl_m, sl_m])
  replace s1 : w9.cell? ⟨w4.heap.size, 1, none⟩ = some (.bool false) := Below.keeps hb0 _ _ (by simp [go_sem, a0, a1, a2, a3, k0, k1, k2, k3, n0, n1, n2, n3, s0, s1, s2, s3, m0, m1, m2, m3, mf, al_m, kl_m, nl_m, sl_m])
  replace s2 : w9.cell? ⟨w4.heap.size, 2, none⟩ = some (.int .i64 0) := Below.keeps hb0 _ _ (by simp [go_sem, a0, a1, a2, a3, k0, k1, k2, k3, n0, n1, n2, n3, s0, s1, s2, s3, m0, m1, m2, m3, mf, al_m, kl_m, nl_m, sl_m])
  replace s3 : w9.cell? ⟨w4.heap.size, 3, none⟩ = some (.int .i64 0) := Below.keeps hb0 _ _ (by simp [go_sem, a0, a1, a2, a3, k0, k1, k2, k3, n0, n1, n2, n3, s0, s1, s2, s3, m0, m1, m2, m3, mf, al_m, kl_m, nl_m, sl_m])
  have m0' : w9.cell? ⟨w4.heap.size + 1, 0, none⟩ = some (.int .i64 0) := Below.keeps hb0 _ _ (by simp [go_sem, a0, a1, a2, a3, k0, k1, k2, k3, n0, n1, n2, n3, s0, s1, s2, s3, m0, m1, m2, m3, mf, al_m, kl_m, nl_m, sl_m])
  have m1' : w9.cell? ⟨w4.heap.size + 1, 1, none⟩ = some (.bool false) := Below.keeps hb0 _ _ (by simp [go_sem, a0, a1, a2, a3, k0, k1, k2, k3, n0, n1, n2, n3, s0, s1, s2, s3, m0, m1, m2, m3, mf, al_m, kl_m, nl_m, sl_m])
  have m2' : w9.cell? ⟨w4.heap.size + 1, 2, none⟩ = some (.int .i64 0) := Below.keeps hb0 _ _ (by simp [go_sem, a0, a1, a2, a3, k0, k1, k2, k3, n0, n1, n2, n3, s0, s1, s2, s3, m0, m1, m2, m3, mf, al_m, kl_m, nl_m, sl_m])
  have m3' : w9.cell? ⟨w4.heap.size + 1, 3, none⟩ = some (.int .i64 0) := Below.keeps hb0 _ _ (by simp [go_sem, a0, a1, a2, a3, k0, k1, k2, k3, n0, n1, n2, n3, s0, s1, s2, s3, m0, m1, m2, m3, mf, al_m, kl_m, nl_m, sl_m])
  replace m0 := m0'
  clear m0'
  replace m1 := m1'
  clear m1'
  replace m2 := m2'
  clear m2'
  replace m3 := m3'
  clear m3'
  replace mf : ∀ k, w9.frozen? ⟨w4.heap.size + 1, k, none⟩ = false := by intro k; rw [hb0.frozen (by first | (simp; done) | (simp; omega))]; simp [go_sem, mf]
  have hsz : w8.heap.size ≤ w9.heap.size := Nat.le_trans (by simp) hb0.size
  replace al := Nat.lt_of_lt_of_le al hsz
  replace kl := Nat.lt_of_lt_of_le kl hsz
  replace nl := Nat.lt_of_lt_of_le nl hsz
  replace sl := Nat.lt_of_lt_of_le sl hsz
  replace ml := Nat.lt_of_lt_of_le ml hsz
  replace HW : Below w.heap.size w w9 := below_trans (by repeat (first | exact HW | (refine Below.drew ?_) | (refine below_drewN' ?_ _) | (refine below_alloc' ?_ _) | (refine Below.setCell ?_ (by first | exact Nat.le_refl _ | (simp; done) | (simp; omega) | omega) _))) hb0
  clear hb0 hsz
  replace al_1 : w.heap.size < w9.heap.size + 1 := by omega
  replace al_2 : w.heap.size < w9.heap.size + 1 + 1 := by omega
  replace al_3 : w.heap.size < w9.heap.size + 1 + 1 + 1 := by omega
  replace al_4 : w.heap.size < w9.heap.size + 1 + 1 + 1 + 1 := by omega
  replace kl_1 : w2.heap.size < w9.heap.size + 1 := by omega
  replace kl_2 : w2.heap.size < w9.heap.size + 1 + 1 := by omega
  replace kl_3 : w2.heap.size < w9.heap.size + 1 + 1 + 1 := by omega
  replace kl_4 : w2.heap.size < w9.heap.size + 1 + 1 + 1 + 1 := by omega
  replace nl_1 : w3.heap.size < w9.heap.size + 1 := by omega
  replace nl_2 : w3.heap.size < w9.heap.size + 1 + 1 := by omega
  replace nl_3 : w3.heap.size < w9.heap.size + 1 + 1 + 1 := by omega
  replace nl_4 : w3.heap.size < w9.heap.size + 1 + 1 + 1 + 1 := by omega
  replace sl_1 : w4.heap.size < w9.heap.size + 1 := by omega
  replace sl_2 : w4.heap.size < w9.heap.size + 1 + 1 := by omega
  replace sl_3 : w4.heap.size < w9.heap.size + 1 + 1 + 1 := by omega
  replace sl_4 : w4.heap.size < w9.heap.size + 1 + 1 + 1 + 1 := by omega
  replace ml_1 : w4.heap.size + 1 < w9.heap.size + 1 := by omega
  replace ml_2 : w4.heap.size + 1 < w9.heap.size + 1 + 1 := by omega
  replace ml_3 : w4.heap.size + 1 < w9.heap.size + 1 + 1 + 1 := by omega
  replace ml_4 : w4.heap.size + 1 < w9.heap.size + 1 + 1 + 1 + 1 := by omega
  go_wp2_with fail
  refine Calls.mono (mp'.out _ _ ?_) ?_
  · exact RdU.below hp (below_trans HW (by repeat (first | exact Below.refl _ _ | assumption | (refine Below.drew ?_) | (refine below_drewN' ?_ _) | (refine below_alloc' ?_ _) | (refine Below.setCell ?_ (by first | exact Nat.le_refl _ | (simp; done) | (simp; omega)) _))))
  rintro e w10 ⟨v1, rfl, hv1, hb0⟩
  have HB : Below w9.heap.size w9 w10 := below_trans (by repeat (first | exact Below.refl _ _ | assumption | (refine Below.drew ?_) | (refine below_drewN' ?_ _) | (refine below_alloc' ?_ _) | (refine Below.setCell ?_ (by first | exact Nat.le_refl _ | (simp; done) | (simp; omega)) _))) hb0
  clear hb0
  replace a0 := Below.keeps HB _ _ a0
  replace a1 := Below.keeps HB _ _ a1
  replace a2 := Below.keeps HB _ _ a2
  replace a3 := Below.keeps HB _ _ a3
  replace k0 := Below.keeps HB _ _ k0
  replace k1 := Below.keeps HB _ _ k1
  replace k2 := Below.keeps HB _ _ k2
  replace k3 := Below.keeps HB _ _ k3
  replace n0 := Below.keeps HB _ _ n0
  replace n1 := Below.keeps HB _ _ n1
  replace n2 := Below.keeps HB _ _ n2
  replace n3 := Below.keeps HB _ _ n3
  replace s0 := Below.keeps HB _ _ s0
  replace s1 := Below.keeps HB _ _ s1
  replace s2 := Below.keeps HB _ _ s2
  replace s3 := Below.keeps HB _ _ s3
  replace m0 := Below.keeps HB _ _ m0
  replace m1 := Below.keeps HB _ _ m1
  replace m2 := Below.keeps HB _ _ m2
  replace m3 := Below.keeps HB _ _ m3
  replace mf := fun k => (HB.frozen (p := ⟨w4.heap.size + 1, k, none⟩) ml).trans (mf k)
  replace al := Nat.lt_of_lt_of_le al HB.size
  replace kl := Nat.lt_of_lt_of_le kl HB.size
  replace nl := Nat.lt_of_lt_of_le nl HB.size
  replace sl := Nat.lt_of_lt_of_le sl HB.size
  replace ml := Nat.lt_of_lt_of_le ml HB.size
  replace HW := below_trans HW HB
  clear HB
  replace al_1 : w.heap.size < w10.heap.size + 1 := by omega
  replace al_2 : w.heap.size < w10.heap.size + 1 + 1 := by omega
  replace al_3 : w.heap.size < w10.heap.size + 1 + 1 + 1 := by omega
  replace al_4 : w.heap.size < w10.heap.size + 1 + 1 + 1 + 1 := by omega
  replace kl_1 : w2.heap.size < w10.heap.size + 1 := by omega
  replace kl_2 : w2.heap.size < w10.heap.size + 1 + 1 := by omega
  replace kl_3 : w2.heap.size < w10.heap.size + 1 + 1 + 1 := by omega
  replace kl_4 : w2.heap.size < w10.heap.size + 1 + 1 + 1 + 1 := by omega
  replace nl_1 : w3.heap.size < w10.heap.size + 1 := by omega
  replace nl_2 : w3.heap.size < w10.heap.size + 1 + 1 := by omega
  replace nl_3 : w3.heap.size < w10.heap.size + 1 + 1 + 1 := by omega
  replace nl_4 : w3.heap.size < w10.heap.size + 1 + 1 + 1 + 1 := by omega
  replace sl_1 : w4.heap.size < w10.heap.size + 1 := by omega
  replace sl_2 : w4.heap.size < w10.heap.size + 1 + 1 := by omega
  replace sl_3 : w4.heap.size < w10.heap.size + 1 + 1 + 1 := by omega
  replace sl_4 : w4.heap.size < w10.heap.size + 1 + 1 + 1 + 1 := by omega
  replace ml_1 : w4.heap.size + 1 < w10.heap.size + 1 := by omega
  replace ml_2 : w4.heap.size + 1 < w10.heap.size + 1 + 1 := by omega
  replace ml_3 : w4.heap.size + 1 < w10.heap.size + 1 + 1 + 1 := by omega
  replace ml_4 : w4.heap.size + 1 < w10.heap.size + 1 + 1 + 1 + 1 := by omega
  go_wp2_with fail
  refine Calls.mono (mq'.out _ _ ?_) ?_
  · exact RdU.below hq (below_trans HW (by repeat (first | exact Below.refl _ _ | assumption | (refine Below.drew ?_) | (refine below_drewN' ?_ _) | (refine below_alloc' ?_ _) | (refine Below.setCell ?_ (by first | exact Nat.le_refl _ | (simp; done) | (simp; omega)) _))))
  rintro e w11 ⟨v2, rfl, hv2, hb0⟩
  have HB : Below w10.heap.size w10 w11 := below_trans (by repeat (first | exact Below.refl _ _ | assumption | (refine Below.drew ?_) | (refine below_drewN' ?_ _) | (refine below_alloc' ?_ _) | (refine Below.setCell ?_ (by first | exact Nat.le_refl _ | (simp; done) | (simp; omega)) _))) hb0
  clear hb0
  replace a0 := Below.keeps HB _ _ a0
  replace a1 := Below.keeps HB _ _ a1
  replace a2 := Below.keeps HB _ _ a2
  replace a3 := Below.keeps HB _ _ a3
  replace k0 := Below.keeps HB _ _ k0
  replace k1 := Below.keeps HB _ _ k1
  replace k2 := Below.keeps HB _ _ k2
  replace k3 := Below.keeps HB _ _ k3
  replace n0 := Below.keeps HB _ _ n0
  replace n1 := Below.keeps HB _ _ n1
  replace n2 := Below.keeps HB _ _ n2
  replace n3 := Below.keeps HB _ _ n3
  replace s0 := Below.keeps HB _ _ s0
  replace s1 := Below.keeps HB _ _ s1
  replace s2 := Below.keeps HB _ _ s2
  replace s3 := Below.keeps HB _ _ s3
  replace m0 := Below.keeps HB _ _ m0
  replace m1 := Below.keeps HB _ _ m1
  replace m2 := Below.keeps HB _ _ m2
  replace m3 := Below.keeps HB _ _ m3
  replace mf := fun k => (HB.frozen (p := ⟨w4.heap.size + 1, k, none⟩) ml).trans (mf k)
  replace al := Nat.lt_of_lt_of_le al HB.size
  replace kl := Nat.lt_of_lt_of_le kl HB.size
  replace nl := Nat.lt_of_lt_of_le nl HB.size
  replace sl := Nat.lt_of_lt_of_le sl HB.size
  replace ml := Nat.lt_of_lt_of_le ml HB.size
  replace HW := below_trans HW HB
  clear HB
  replace al_1 : w.heap.size < w11.heap.size + 1 := by omega
  replace al_2 : w.heap.size < w11.heap.size + 1 + 1 := by omega
  replace al_3 : w.heap.size < w11.heap.size + 1 + 1 + 1 := by omega
  replace al_4 : w.heap.size < w11.heap.size + 1 + 1 + 1 + 1 := by omega
  replace kl_1 : w2.heap.size < w11.heap.size + 1 := by omega
  replace kl_2 : w2.heap.size < w11.heap.size + 1 + 1 := by omega
  replace kl_3 : w2.heap.size < w11.heap.size + 1 + 1 + 1 := by omega
  replace kl_4 : w2.heap.size < w11.heap.size + 1 + 1 + 1 + 1 := by omega
  replace nl_1 : w3.heap.size < w11.heap.size + 1 := by omega
  replace nl_2 : w3.heap.size < w11.heap.size + 1 + 1 := by omega
  replace nl_3 : w3.heap.size < w11.heap.size + 1 + 1 + 1 := by omega
  replace nl_4 : w3.heap.size < w11.heap.size + 1 + 1 + 1 + 1 := by omega
  replace sl_1 : w4.heap.size < w11.heap.size + 1 := by omega
  replace sl_2 : w4.heap.size < w11.heap.size + 1 + 1 := by omega
  replace sl_3 : w4.heap.size < w11.heap.size + 1 + 1 + 1 := by omega
  replace sl_4 : w4.heap.size < w11.heap.size + 1 + 1 + 1 + 1 := by omega
  replace ml_1 : w4.heap.size + 1 < w11.heap.size + 1 := by omega
  replace ml_2 : w4.heap.size + 1 < w11.heap.size + 1 + 1 := by omega
  replace ml_3 : w4.heap.size + 1 < w11.heap.size + 1 + 1 + 1 := by omega
  replace ml_4 : w4.heap.size + 1 < w11.heap.size + 1 + 1 + 1 + 1 := by omega
  go_wp2_with fail
  go_ret
  exact ⟨rfl, below_trans HW (by repeat (first | exact Below.refl _ _ | assumption | (refine Below.drew ?_) | (refine below_drewN' ?_ _) | (refine below_alloc' ?_ _) | (refine Below.setCell ?_ (by first | exact Nat.le_refl _ | (simp; done) | (simp; omega)) _)))⟩

set_option maxRecDepth 100000 in
set_option maxHeartbeats 8000000 in
theorem group_pl (t : Int) (f : Bool) (x y : Int) (vp vq : Value) (ps qs : List Int) (w : World) (hp : RdU w vp ps) (hq : RdU w vq qs) (hr : Pl.rightB t x y = true) (h1 : Pl.smallB ps = true) (h2 : Pl.smallB qs = true) (bt bx bY : Int) (bk : ∀ w : World, Calls Try.prog 21 #[Mo t f x y] w fun e w' => e = .returned (.tuple #[Mo bt f bx bY, .int .i64 0]) ∧ Below w.heap.size w w') (ta : ∀ w : World, Calls Try.prog 22 #[Mo t f x y, Mo bt f bx bY] w fun e w' => e = .returned (.tuple #[Mz, .int .i64 0]) ∧ Below w.heap.size w w') (tb : ∀ w : World, Calls Try.prog 22 #[Mo bt f bx bY, Mo t f x y] w fun e w' => e = .returned (.tuple #[Mz, .int .i64 0]) ∧ Below w.heap.size w w') (tk : ∀ (k : Int) (w : World), 0 ≤ k → k ≤ 3 → Calls Try.prog 22 #[Mo k false 0 0, Mo 1 false 0 0] w fun e w' => e = .returned (.tuple #[Mo ((k + 1) % 4) false 0 0, .int .i64 0]) ∧ Below w.heap.size w w') (t2 : ∀ w : World, Calls Try.prog 22 #[Mo t true 0 0, Mo t true 0 0] w fun e w' => e = .returned (.tuple #[Mz, .int .i64 0]) ∧ Below w.heap.size w w') (X Y : Int) (mp : ∀ (w : World) (v : Value), RdU w v ps → Calls Try.prog 20 #[Mo t f x y, v] w (RetPt w ([X, Y], 0))) (mq : ∀ (w : World) (v : Value), RdU w v qs → Calls Try.prog 20 #[Mo t f x y, v] w (RetPt w ([], 11))) :
    Calls Try.prog 5 #[Mo t f x y, vp, vq] w fun e w' => e = .returned (.bool true) ∧ Below w.heap.size w w' := by
  have hr' := Lib.hid hr
  have h1' := Lib.hid h1
  have h2' := Lib.hid h2
  have bk' := Lib.hid bk
  have ta' := Lib.hid ta
  have tb' := Lib.hid tb
  have tk' := Lib.hid tk
  have t2' := Lib.hid t2
  have mp' := Lib.hid mp
  have mq' := Lib.hid mq
  clear hr h1 h2 bk ta tb tk t2 mp mq
  go_enter Try.func5, Try.ntmps5
  go_wp2_with fail
  refine Calls.mono (awake27 _) ?_
  rintro e w1 ⟨rfl, hb0⟩
  have a0 : w1.cell? ⟨w.heap.size, 0, none⟩ = some (.int .i64 t) := Below.keeps hb0 _ _ (by simp [go_sem])
  have a1 : w1.cell? ⟨w.heap.size, 1, none⟩ = some (.bool f) := Below.keeps hb0 _ _ (by simp [go_sem])
  have a2 : w1.cell? ⟨w.heap.size, 2, none⟩ = some (.int .i64 x) := Below.keeps hb0 _ _ (by simp [go_sem])
  have a3 : w1.cell? ⟨w.heap.size, 3, none⟩ = some (.int .i64 y) := Below.keeps hb0 _ _ (by simp [go_sem])
  have HB : Below w.heap.size w w1 := below_trans (by repeat (first | exact Below.refl _ _ | assumption | (refine Below.drew ?_) | (refine below_drewN' ?_ _) | (refine below_alloc' ?_ _) | (refine Below.setCell ?_ (by first | exact Nat.le_refl _ | (simp; done) | (simp; omega)) _))) hb0
  clear hb0
  have HW := HB
  clear HB
  have al : w.heap.size < w1.heap.size := World.block_lt_of_cell? w1 _ a0
  have al_1 : w.heap.size < w1.heap.size + 1 := by omega
  have al_2 : w.heap.size < w1.heap.size + 1 + 1 := by omega
  have al_3 : w.heap.size < w1.heap.size + 1 + 1 + 1 := by omega
  have al_4 : w.heap.size < w1.heap.size + 1 + 1 + 1 + 1 := by omega
  go_wp2_with fail
  refine Calls.mono (RefRight_any t x y _) ?_
  rintro e w5 ⟨rfl, rfl⟩
  rw [hr'.out]
  go_wp2_with fail
  refine Calls.mono (Small_any _ ps _ ?_) ?_
  · exact RdU.below hp (below_trans HW (by repeat (first | exact Below.refl _ _ | assumption | (refine Below.drew ?_) | (refine below_drewN' ?_ _) | (refine below_alloc' ?_ _) | (refine Below.setCell ?_ (by first | exact Nat.le_refl _ | (simp; done) | (simp; omega)) _))))
  rintro e w5 ⟨rfl, rfl⟩
  rw [h1'.out]
  go_wp2_with fail
  refine Calls.mono (Small_any _ qs _ ?_) ?_
  · exact RdU.below hq (below_trans HW (by repeat (first | exact Below.refl _ _ | assumption | (refine Below.drew ?_) | (refine below_drewN' ?_ _) | (refine below_alloc' ?_ _) | (refine Below.setCell ?_ (by first | exact Nat.le_refl _ | (simp; done) | (simp; omega)) _))))
  rintro e w5 ⟨rfl, rfl⟩
  rw [h2'.out]
  go_wp2_with fail
  refine Calls.mono (bk'.out _) ?_
  rintro e w2 ⟨rfl, hb0⟩
  have HB : Below w1.heap.size w1 w2 := below_trans (by repeat (first | exact Below.refl _ _ | assumption | (refine Below.drew ?_) | (refine below_drewN' ?_ _) | (refine below_alloc' ?_ _) | (refine Below.setCell ?_ (by first | exact Nat.le_refl _ | (simp; done) | (simp; omega)) _))) hb0
  clear hb0
  replace a0 := Below.keeps HB _ _ a0
  replace a1 := Below.keeps HB _ _ a1
  replace a2 := Below.keeps HB _ _ a2
  replace a3 := Below.keeps HB _ _ a3
  replace al := Nat.lt_of_lt_of_le al HB.size
  replace HW := below_trans HW HB
  clear HB
  replace al_1 : w.heap.size < w2.heap.size + 1 := by omega
  replace al_2 : w.heap.size < w2.heap.size + 1 + 1 := by omega
  replace al_3 : w.heap.size < w2.heap.size + 1 + 1 + 1 := by omega
  replace al_4 : w.heap.size < w2.heap.size + 1 + 1 + 1 + 1 := by omega
  go_wp2_with fail
  refine Calls.mono (ta'.out _) ?_
  rintro e w3 ⟨rfl, hb0⟩
  have k0 : w3.cell? ⟨w2.heap.size, 0, none⟩ = some (.int .i64 bt) := Below.keeps hb0 _ _ (by simp [go_sem])
  have k1 : w3.cell? ⟨w2.heap.size, 1, none⟩ = some (.bool f) := Below.keeps hb0 _ _ (by simp [go_sem])
  have k2 : w3.cell? ⟨w2.heap.size, 2, none⟩ = some (.int .i64 bx) := Below.keeps hb0 _ _ (by simp [go_sem])
  have k3 : w3.cell? ⟨w2.heap.size, 3, none⟩ = some (.int .i64 bY) := Below.keeps hb0 _ _ (by simp [go_sem])
  have HB : Below w2.heap.size w2 w3 := below_trans (by repeat (first | exact Below.refl _ _ | assumption | (refine Below.drew ?_) | (refine below_drewN' ?_ _) | (refine below_alloc' ?_ _) | (refine Below.setCell ?_ (by first | exact Nat.le_refl _ | (simp; done) | (simp; omega)) _))) hb0
  clear hb0
  replace a0 := Below.keeps HB _ _ a0
  replace a1 := Below.keeps HB _ _ a1
  replace a2 := Below.keeps HB _ _ a2
  replace a3 := Below.keeps HB _ _ a3
  replace al := Nat.lt_of_lt_of_le al HB.size
  replace HW := below_trans HW HB
  clear HB
  have kl : w2.heap.size < w3.heap.size := World.block_lt_of_cell? w3 _ k0
  replace al_1 : w.heap.size < w3.heap.size + 1 := by omega
  replace al_2 : w.heap.size < w3.heap.size + 1 + 1 := by omega
  replace al_3 : w.heap.size < w3.heap.size + 1 + 1 + 1 := by omega
  replace al_4 : w.heap.size < w3.heap.size + 1 + 1 + 1 + 1 := by omega
  have kl_1 : w2.heap.size < w3.heap.size + 1 := by omega
  have kl_2 : w2.heap.size < w3.heap.size + 1 + 1 := by omega
  have kl_3 : w2.heap.size < w3.heap.size + 1 + 1 + 1 := by omega
  have kl_4 : w2.heap.size < w3.heap.size + 1 + 1 + 1 + 1 := by omega
  go_wp2_with fail
  refine Calls.mono (tb'.out _) ?_
  rintro e w4 ⟨rfl, hb0⟩
  have n0 : w4.cell? ⟨w3.heap.size, 0, none⟩ = some (.int .i64 0) := Below.keeps hb0 _ _ (by simp [go_sem])
  have n1 : w4.cell? ⟨w3.heap.size, 1, none⟩ = some (.bool false) := Below.keeps hb0 _ _ (by simp [go_sem])
  have n2 : w4.cell? ⟨w3.heap.size, 2, none⟩ = some (.int .i64 0) := Below.keeps hb0 _ _ (by simp [go_sem])
  have n3 : w4.cell? ⟨w3.heap.size, 3, none⟩ = some (.int .i64 0) := Below.keeps hb0 _ _ (by simp [go_sem])
  have HB : Below w3.heap.size w3 w4 := below_trans (by repeat (first | exact Below.refl _ _ | assumption | (refine Below.drew ?_) | (refine below_drewN' ?_ _) | (refine below_alloc' ?_ _) | (refine Below.setCell ?_ (by first | exact Nat.le_refl _ | (simp; done) | (simp; omega)) _))) hb0
  clear hb0
  replace a0 := Below.keeps HB _ _ a0
  replace a1 := Below.keeps HB _ _ a1
  replace a2 := Below.keeps HB _ _ a2
  replace a3 := Below.keeps HB _ _ a3
  replace k0 := Below.keeps HB _ _ k0
  replace k1 := Below.keeps HB _ _ k1
  replace k2 := Below.keeps HB _ _ k2
  replace k3 := Below.keeps HB _ _ k3
  replace al := Nat.lt_of_lt_of_le al HB.size
  replace kl := Nat.lt_of_lt_of_le kl HB.size
  replace HW := below_trans HW HB
  clear HB
  have nl : w3.heap.size < w4.heap.size := World.block_lt_of_cell? w4 _ n0
  replace al_1 : w.heap.size < w4.heap.size + 1 := by omega
  replace al_2 : w.heap.size < w4.heap.size + 1 + 1 := by omega
  replace al_3 : w.heap.size < w4.heap.size + 1 + 1 + 1 := by omega
  replace al_4 : w.heap.size < w4.heap.size + 1 + 1 + 1 + 1 := by omega
  replace kl_1 : w2.heap.size < w4.heap.size + 1 := by omega
  replace kl_2 : w2.heap.size < w4.heap.size + 1 + 1 := by omega
  replace kl_3 : w2.heap.size < w4.heap.size + 1 + 1 + 1 := by omega
  replace kl_4 : w2.heap.size < w4.heap.size + 1 + 1 + 1 + 1 := by omega
  have nl_1 : w3.heap.size < w4.heap.size + 1 := by omega
  have nl_2 : w3.heap.size < w4.heap.size + 1 + 1 := by omega
  have nl_3 : w3.heap.size < w4.heap.size + 1 + 1 + 1 := by omega
  have nl_4 : w3.heap.size < w4.heap.size + 1 + 1 + 1 + 1 := by omega
  go_wp2_with fail
  refine wp_loop_rounds 5 ?_
  rw [rounds_succ]
  go_wp2_with fail
  refine Calls.mono (tk'.out 0 _ (by omega) (by omega)) ?_
  rintro e w5 ⟨rfl, hb0⟩
  have s0 : w5.cell? ⟨w4.heap.size, 0, none⟩ = some (.int .i64 0) := Below.keeps hb0 _ _ (by simp [go_sem])
  have s1 : w5.cell? ⟨w4.heap.size, 1, none⟩ = some (.bool false) := Below.keeps hb0 _ _ (by simp [go_sem])
  have s2 : w5.cell? ⟨w4.heap.size, 2, none⟩ = some (.int .i64 0) := Below.keeps hb0 _ _ (by simp [go_sem])
  have s3 : w5.cell? ⟨w4.heap.size, 3, none⟩ = some (.int .i64 0) := Below.keeps hb0 _ _ (by simp [go_sem])
  have m0 : w5.cell? ⟨w4.heap.size + 1, 0, none⟩ = some (.int .i64 0) := Below.keeps hb0 _ _ (by simp [go_sem])
  have m1 : w5.cell? ⟨w4.heap.size + 1, 1, none⟩ = some (.bool false) := Below.keeps hb0 _ _ (by simp [go_sem])
  have m2 : w5.cell? ⟨w4.heap.size + 1, 2, none⟩ = some (.int .i64 0) := Below.keeps hb0 _ _ (by simp [go_sem])
  have m3 : w5.cell? ⟨w4.heap.size + 1, 3, none⟩ = some (.int .i64 0) := Below.keeps hb0 _ _ (by simp [go_sem])
  have mf : ∀ k, w5.frozen? ⟨w4.heap.size + 1, k, none⟩ = false := by intro k; rw [hb0.frozen (by first | (simp; done) | (simp; omega))]; simp [go_sem]
  have m_base : w.heap.size ≤ w4.heap.size + 1 := by have := HW.size; omega
  have al_m : ¬ w.heap.size = w4.heap.size + 1 := by omega
  have kl_m : ¬ w2.heap.size = w4.heap.size + 1 := by omega
  have nl_m : ¬ w3.heap.size = w4.heap.size + 1 := by omega
  have sl_m : ¬ w4.heap.size = w4.heap.size + 1 := by omega
  have HB : Below w4.heap.size w4 w5 := below_trans (by repeat (first | exact Below.refl _ _ | assumption | (refine Below.drew ?_) | (refine below_drewN' ?_ _) | (refine below_alloc' ?_ _) | (refine Below.setCell ?_ (by first | exact Nat.le_refl _ | (simp; done) | (simp; omega)) _))) hb0
  clear hb0
  replace a0 := Below.keeps HB _ _ a0
  replace a1 := Below.keeps HB _ _ a1
  replace a2 := Below.keeps HB _ _ a2
  replace a3 := Below.keeps HB _ _ a3
  replace k0 := Below.keeps HB _ _ k0
  replace k1 := Below.keeps HB _ _ k1
  replace k2 := Below.keeps HB _ _ k2
  replace k3 := Below.keeps HB _ _ k3
  replace n0 := Below.keeps HB _ _ n0
  replace n1 := Below.keeps HB _ _ n1
  replace n2 := Below.keeps HB _ _ n2
  replace n3 := Below.keeps HB _ _ n3
  replace al := Nat.lt_of_lt_of_le al HB.size
  replace kl := Nat.lt_of_lt_of_le kl HB.size
  replace nl := Nat.lt_of_lt_of_le nl HB.size
  replace HW := below_trans HW HB
  clear HB
  have sl : w4.heap.size < w5.heap.size := World.block_lt_of_cell? w5 _ s0
  have ml : w4.heap.size + 1 < w5.heap.size := World.block_lt_of_cell? w5 _ m0
  replace al_1 : w.heap.size < w5.heap.size + 1 := by omega
  replace al_2 : w.heap.size < w5.heap.size + 1 + 1 := by omega
  replace al_3 : w.heap.size < w5.heap.size + 1 + 1 + 1 := by omega
  replace al_4 : w.heap.size < w5.heap.size + 1 + 1 + 1 + 1 := by omega
  replace kl_1 : w2.heap.size < w5.heap.size + 1 := by omega
  replace kl_2 : w2.heap.size < w5.heap.size + 1 + 1 := by omega
  replace kl_3 : w2.heap.size < w5.heap.size + 1 + 1 + 1 := by omega
  replace kl_4 : w2.heap.size < w5.heap.size + 1 + 1 + 1 + 1 := by omega
  replace nl_1 : w3.heap.size < w5.heap.size + 1 := by omega
  replace nl_2 : w3.heap.size < w5.heap.size + 1 + 1 := by omega
  replace nl_3 : w3.heap.size < w5.heap.size + 1 + 1 + 1 := by omega
  replace nl_4 : w3.heap.size < w5.heap.size + 1 + 1 + 1 + 1 := by omega
  have sl_1 : w4.heap.size < w5.heap.size + 1 := by omega
  have sl_2 : w4.heap.size < w5.heap.size + 1 + 1 := by omega
  have sl_3 : w4.heap.size < w5.heap.size + 1 + 1 + 1 := by omega
  have sl_4 : w4.heap.size < w5.heap.size + 1 + 1 + 1 + 1 := by omega
  have ml_1 : w4.heap.size + 1 < w5.heap.size + 1 := by omega
  have ml_2 : w4.heap.size + 1 < w5.heap.size + 1 + 1 := by omega
  have ml_3 : w4.heap.size + 1 < w5.heap.size + 1 + 1 + 1 := by omega
  have ml_4 : w4.heap.size + 1 < w5.heap.size + 1 + 1 + 1 + 1 := by omega
  go_wp2_with fail
  rw [rounds_succ]
  go_wp2_with fail
  refine Calls.mono (tk'.out 1 _ (by omega) (by omega)) ?_
  rintro e w6 ⟨rfl, hb0⟩
  replace a0 : w6.cell? ⟨w.heap.size, 0, none⟩ = some (.int .i64 t) := Below.keeps hb0 _ _ (by simp [go_sem, a0, a1, a2, a3, k0, k1, k2, k3, n0, n1, n2, n3, s0, s1, s2, s3, m0, m1, m2, m3, mf, al_m, kl_m, nl_m, sl_m])
  replace a1 : w6.cell? ⟨w.heap.size, 1, none⟩ = some (.bool f) := Below.keeps hb0 _ _ (by simp [go_sem, a0, a1, a2, a3, k0, k1, k2, k3, n0, n1, n2, n3, s0, s1, s2, s3, m0, m1, m2, m3, mf, al_m, kl_m, nl_m, sl_m])
  replace a2 : w6.cell? ⟨w.heap.size, 2, none⟩ = some (.int .i64 x) := Below.keeps hb0 _ _ (by simp [go_sem, a0, a1, a2, a3, k0, k1, k2, k3, n0, n1, n2, n3, s0, s1, s2, s3, m0, m1, m2, m3, mf, al_m, kl_m, nl_m, sl_m])
  replace a3 : w6.cell? ⟨w.heap.size, 3, none⟩ = some (.int .i64 y) := Below.keeps hb0 _ _ (by simp [go_sem, a0, a1, a2, a3, k0, k1, k2, k3, n0, n1, n2, n3, s0, s1, s2, s3, m0, m1, m2, m3, mf, al_m, kl_m, nl_m, sl_m])
  replace k0 : w6.cell? ⟨w2.heap.size, 0, none⟩ = some (.int .i64 bt) := Below.keeps hb0 _ _ (by simp [go_sem, a0, a1, a2, a3, k0, k1, k2, k3, n0, n1, n2, n3, s0, s1, s2, s3, m0, m1, m2, m3, mf, al_m, kl_m, nl_m, sl_m])
  replace k1 : w6.cell? ⟨w2.heap.size, 1, none⟩ = some (.bool f) := Below.keeps hb0 _ _ (by simp [go_sem, a0, a1, a2, a3, k0, k1, k2, k3, n0, n1, n2, n3, s0, s1, s2, s3, m0, m1, m2, m3, mf, al_m, kl_m, nl_m, sl_m])
  replace k2 : w6.cell? ⟨w2.heap.size, 2, none⟩ = some (.int .i64 bx) := Below.keeps hb0 _ _ (by simp [go_sem, a0, a1, a2, a3, k0, k1, k2, k3, n0, n1, n2, n3, s0, s1, s2, s3, m0, m1, m2, m3, mf, al_m, kl_m, nl_m, sl_m])
  replace k3 : w6.cell? ⟨w2.heap.size, 3, none⟩ = some (.int .i64 bY) := Below.keeps hb0 _ _ (by simp [go_sem, a0, a1, a2, a3, k0, k1, k2, k3, n0, n1, n2, n3, s0, s1, s2, s3, m0, m1, m2, m3, mf, al_m, kl_m, nl_m, sl_m])
  replace n0 : w6.cell? ⟨w3.heap.size, 0, none⟩ = some (.int .i64 0) := Below.keeps hb0 _ _ (by simp [go_sem, a0, a1, a2, a3, k0, k1, k2, k3, n0, n1, n2, n3, s0, s1, s2, s3, m0, m1, m2, m3, mf, al_m, kl_m, nl_m, sl_m])
  replace n1 : w6.cell? ⟨w3.heap.size, 1, none⟩ = some (.bool false) := Below.keeps hb0 _ _ (by simp [go_sem, a0, a1, a2, a3, k0, k1, k2, k3, n0, n1, n2, n3, s0, s1, s2, s3, m0, m1, m2, m3, mf, al_m, kl_m, nl_m, sl_m])
  replace n2 : w6.cell? ⟨w3.heap.size, 2, none⟩ = some (.int .i64 0) := Below.keeps hb0 _ _ (by simp [go_sem, a0, a1, a2, a3, k0, k1, k2, k3, n0, n1, n2, n3, s0, s1, s2, s3, m0, m1, m2, m3, mf, al_m, kl_m, nl_m, sl_m])
  replace n3 : w6.cell? ⟨w3.heap.size, 3, none⟩ = some (.int .i64 0) := Below.keeps hb0 _ _ (by simp [go_sem, a0, a1, a2, a3, k0, k1, k2, k3, n0, n1, n2, n3, s0, s1, s2, s3, m0, m1, m2, m3, mf, al_m, kl_m, nl_m, sl_m])
  replace s0 : w6.cell? ⟨w4.heap.size, 0, none⟩ = some (.int .i64 0) := Below.keeps hb0 _ _ (by simp [go_sem, a0, a1, a2, a3, k0, k1, k2, k3, n0, n1, n2, n3, s0, s1, s2, s3, m0, m1, m2, m3, mf, al_m, kl_m, nl_m, sl_m])
  replace s1 : w6.cell? ⟨w4.heap.size, 1, none⟩ = some (.bool false) := Below.keeps hb0 _ _ (by simp [go_sem, a0, a1, a2, a3, k0, k1, k2, k3, n0, n1, n2, n3, s0, s1, s2, s3, m0, m1, m2, m3, mf, al_m, kl_m, nl_m, sl_m])
  replace s2 : w6.cell? ⟨w4.heap.size, 2, none⟩ = some (.int .i64 0) := Below.keeps hb0 _ _ (by simp [go_sem, a0, a1, a2, a3, k0, k1, k2, k3, n0, n1, n2, n3, s0, s1, s2, s3, m0, m1, m2, m3, mf, al_m, kl_m, nl_m, sl_m])
  replace s3 : w6.cell? ⟨w4.heap.size, 3, none⟩ = some (.int .i64 0) := Below.keeps hb0 _ _ (by simp [go_sem, a0, a1, a2, a3, k0, k1, k2, k3, n0, n1, n2, n3, s0, s1, s2, s3, m0, m1, m2, m3, mf, al_m, kl_m, nl_m, sl_m])
  have m0' : w6.cell? ⟨w4.heap.size + 1, 0, none⟩ = some (.int .i64 1) := Below.keeps hb0 _ _ (by simp [go_sem, a0, a1, a2, a3, k0, k1, k2, k3, n0, n1, n2, n3, s0, s1, s2, s3, m0, m1, m2, m3, mf, al_m, kl_m, nl_m, sl_m])
  have m1' : w6.cell? ⟨w4.heap.size + 1, 1, none⟩ = some (.bool false) := Below.keeps hb0 _ _ (by simp [go_sem, a0, a1, a2, a3, k0, k1, k2, k3, n0, n1, n2, n3, s0, s1, s2, s3, m0, m1, m2, m3, mf, al_m, kl_m, nl_m, sl_m])
  have m2' : w6.cell? ⟨w4.heap.size + 1, 2, none⟩ = some (.int .i64 0) := Below.keeps hb0 _ _ (by simp [go_sem, a0, a1, a2, a3, k0, k1, k2, k3, n0, n1, n2, n3, s0, s1, s2, s3, m0, m1, m2, m3, mf, al_m, kl_m, nl_m, sl_m])
  have m3' : w6.cell? ⟨w4.heap.size + 1, 3, none⟩ = some (.int .i64 0) := Below.keeps hb0 _ _ (by simp [go_sem, a0, a1, a2, a3, k0, k1, k2, k3, n0, n1, n2, n3, s0, s1, s2, s3, m0, m1, m2, m3, mf, al_m, kl_m, nl_m, sl_m])
  replace m0 := m0'
  clear m0'
  replace m1 := m1'
  clear m1'
  replace m2 := m2'
  clear m2'
  replace m3 := m3'
  clear m3'
  replace mf : ∀ k, w6.frozen? ⟨w4.heap.size + 1, k, none⟩ = false := by intro k; rw [hb0.frozen (by first | (simp; done) | (simp; omega))]; simp [go_sem, mf]
  have hsz : w5.heap.size ≤ w6.heap.size := Nat.le_trans (by simp) hb0.size
  replace al := Nat.lt_of_lt_of_le al hsz
  replace kl := Nat.lt_of_lt_of_le kl hsz
  replace nl := Nat.lt_of_lt_of_le nl hsz
  replace sl := Nat.lt_of_lt_of_le sl hsz
  replace ml := Nat.lt_of_lt_of_le ml hsz
  replace HW : Below w.heap.size w w6 := below_trans (by repeat (first | exact HW | (refine Below.drew ?_) | (refine below_drewN' ?_ _) | (refine below_alloc' ?_ _) | (refine Below.setCell ?_ (by first | exact Nat.le_refl _ | (simp; done) | (simp; omega) | omega) _))) hb0
  clear hb0 hsz
  replace al_1 : w.heap.size < w6.heap.size + 1 := by omega
  replace al_2 : w.heap.size < w6.heap.size + 1 + 1 := by omega
  replace al_3 : w.heap.size < w6.heap.size + 1 + 1 + 1 := by omega
  replace al_4 : w.heap.size < w6.heap.size + 1 + 1 + 1 + 1 := by omega
  replace kl_1 : w2.heap.size < w6.heap.size + 1 := by omega
  replace kl_2 : w2.heap.size < w6.heap.size + 1 + 1 := by omega
  replace kl_3 : w2.heap.size < w6.heap.size + 1 + 1 + 1 := by omega
  replace kl_4 : w2.heap.size < w6.heap.size + 1 + 1 + 1 + 1 := by omega
  replace nl_1 : w3.heap.size < w6.heap.size + 1 := by omega
  replace nl_2 : w3.heap.size < w6.heap.size + 1 + 1 := by omega
  replace nl_3 : w3.heap.size < w6.heap.size + 1 + 1 + 1 := by omega
  replace nl_4 : w3.heap.size < w6.heap.size + 1 + 1 + 1 + 1 := by omega
  replace sl_1 : w4.heap.size < w6.heap.size + 1 := by omega
  replace sl_2 : w4.heap.size < w6.heap.size + 1 + 1 := by omega
  replace sl_3 : w4.heap.size < w6.heap.size + 1 + 1 + 1 := by omega
  replace sl_4 : w4.heap.size < w6.heap.size + 1 + 1 + 1 + 1 := by omega
  replace ml_1 : w4.heap.size + 1 < w6.heap.size + 1 := by omega
  replace ml_2 : w4.heap.size + 1 < w6.heap.size + 1 + 1 := by omega
  replace ml_3 : w4.heap.size + 1 < w6.heap.size + 1 + 1 + 1 := by omega
  replace ml_4 : w4.heap.size + 1 < w6.heap.size + 1 + 1 + 1 + 1 := by omega
  go_wp2_with fail
  rw [rounds_succ]
  go_wp2_with fail
  refine Calls.mono (tk'.out 2 _ (by omega) (by omega)) ?_
  rintro e w7 ⟨rfl, hb0⟩
  replace a0 : w7.cell? ⟨w.heap.size, 0, none⟩ = some (.int .i64 t) := Below.keeps hb0 _ _ (by simp [go_sem, a0, a1, a2, a3, k0, k1, k2, k3, n0, n1, n2, n3, s0, s1, s2, s3, m0, m1, m2, m3, mf, al_m, kl_m, nl_m, sl_m])
  replace a1 : w7.cell? ⟨w.heap.size, 1, none⟩ = some (.bool f) := Below.keeps hb0 _ _ (by simp [go_sem, a0, a1, a2, a3, k0, k1, k2, k3, n0, n1, n2, n3, s0, s1, s2, s3, m0, m1, m2, m3, mf, al_m, kl_m, nl_m, sl_m])
  replace a2 : w7.cell? ⟨w.heap.size, 2, none⟩ = some (.int .i64 x) := Below.keeps hb0 _ _ (by simp [go_sem, a0, a1, a2, a3, k0, k1, k2, k3, n0, n1, n2, n3, s0, s1, s2, s3, m0, m1, m2, m3, mf, al_m, kl_m, nl_m, sl_m])
  replace a3 : w7.cell? ⟨w.heap.size, 3, none⟩ = some (.int .i64 y) := Below.keeps hb0 _ _ (by simp [go_sem, a0, a1, a2, a3, k0, k1, k2, k3, n0, n1, n2, n3, s0, s1, s2, s3, m0, m1, m2, m3, mf, al_m, kl_m, nl_m, sl_m])
  replace k0 : w7.cell? ⟨w2.heap.size, 0, none⟩ = some (.int .i64 bt) := Below.keeps hb0 _ _ (by simp [go_sem, a0, a1, a2, a3, k0, k1, k2, k3, n0, n1, n2, n3, s0, s1, s2, s3, m0, m1, m2, m3, mf, al_m, kl_m, nl_m, sl_m])
  replace k1 : w7.cell? ⟨w2.heap.size, 1, none⟩ = some (.bool f) := Below.keeps hb0 _ _ (by simp [go_sem, a0, a1, a2, a3, k0, k1, k2, k3, n0, n1, n2, n3, s0, s1, s2, s3, m0, m1, m2, m3, mf, al_m, kl_m, nl_m, sl_m])
  replace k2 : w7.cell? ⟨w2.heap.size, 2, none⟩ = some (.int .i64 bx) := Below.keeps hb0 _ _ (by simp [go_sem, a0, a1, a2, a3, k0, k1, k2, k3, n0, n1, n2, n3, s0, s1, s2, s3, m0, m1, m2, m3, mf, al_m, kl_m, nl_m, sl_m])
  replace k3 : w7.cell? ⟨w2.heap.size, 3, none⟩ = some (.int .i64 bY) := Below.keeps hb0 _ _ (by simp [go_sem, a0, a1, a2, a3, k0, k1, k2, k3, n0, n1, n2, n3, s0, s1, s2, s3, m0, m1, m2, m3, mf, al_m, kl_m, nl_m, sl_m])
  replace n0 : w7.cell? ⟨w3.heap.size, 0, none⟩ = some (.int .i64 0) := Below.keeps hb0 _ _ (by simp [go_sem, a0, a1, a2, a3, k0, k1, k2, k3, n0, n1, n2, n3, s0, s1, s2, s3, m0, m1, m2, m3, mf, al_m, kl_m, nl_m, sl_m])
  replace n1 : w7.cell? ⟨w3.heap.size, 1, none⟩ = some (.bool false) := Below.keeps hb0 _ _ (by simp [go_sem, a0, a1, a2, a3, k0, k1, k2, k3, n0, n1, n2, n3, s0, s1, s2, s3, m0, m1, m2, m3, mf, al_m, kl_m, nl_m, sl_m])
  replace n2 : w7.cell? ⟨w3.heap.size, 2, none⟩ = some (.int .i64 0) := Below.keeps hb0 _ _ (by simp [go_sem, a0, a1, a2, a3, k0, k1, k2, k3, n0, n1, n2, n3, s0, s1, s2, s3, m0, m1, m2, m3, mf, al_m, kl_m, nl_m, sl_m])
  replace n3 : w7.cell? ⟨w3.heap.size, 3, none⟩ = some (.int .i64 0) := Below.keeps hb0 _ _ (by simp [go_sem, a0, a1, a2, a3, k0, k1, k2, k3, n0, n1, n2, n3, s0, s1, s2, s3, m0, m1, m2, m3, mf, al_m, kl_m, nl_m, sl_m])
  replace s0 : w7.cell? ⟨w4.heap.size, 0, none⟩ = some (.int .i64 0) := Below.keeps hb0 _ _ (by simp [go_sem, a0, a1, a2, a3, k0, k1, k2, k3, n0, n1, n2, n3, s0, s1, s2, s3, m0, m1, m2, m3, mf, al_m, kl_m, nl_m, sl_m])
  replace s1 : w7.cell? ⟨w4.heap.size, 1, none⟩ = some (.bool false) := Below.keeps hb0 _ _ (by simp [go_sem, a0, a1, a2, a3, k0, k1, k2, k3, n0, n1, n2, n3, s0, s1, s2, s3, m0, m1, m2, m3, mf, al_m, kl_m, nl_m, sl_m])
  replace s2 : w7.cell? ⟨w4.heap.size, 2, none⟩ = some (.int .i64 0) := Below.keeps hb0 _ _ (by simp [go_sem, a0, a1, a2, a3, k0, k1, k2, k3, n0, n1, n2, n3, s0, s1, s2, s3, m0, m1, m2, m3, mf, al_m, kl_m, nl_m, sl_m])
  replace s3 : w7.cell? ⟨w4.heap.size, 3, none⟩ = some (.int .i64 0) := Below.keeps hb0 _ _ (by simp [go_sem, a0, a1, a2, a3, k0, k1, k2, k3, n0, n1, n2, n3, s0, s1, s2, s3, m0, m1, m2, m3, mf, al_m, kl_m, nl_m, sl_m])
  have m0' : w7.cell? ⟨w4.heap.size + 1, 0, none⟩ = some (.int .i64 2) := Below.keeps hb0 _ _ (by simp [go_sem, a0, a1, a2, a3, k0, k1, k2, k3, n0, n1, n2, n3, s0, s1, s2, s3, m0, m1, m2, m3, mf, al_m, kl_m, nl_m, sl_m])
  have m1' : w7.cell? ⟨w4.heap.size + 1, 1, none⟩ = some (.bool false) := Below.keeps hb0 _ _ (by simp [go_sem, a0, a1, a2, a3, k0, k1, k2, k3, n0, n1, n2, n3, s0, s1, s2, s3, m0, m1, m2, m3, mf, al_m, kl_m, nl_m, sl_m])
  have m2' : w7.cell? ⟨w4.heap.size + 1, 2, none⟩ = some (.int .i64 0) := Below.keeps hb0 _ _ (by simp [go_sem, a0, a1, a2, a3, k0, k1, k2, k3, n0, n1, n2, n3, s0, s1, s2, s3, m0, m1, m2, m3, mf, al_m, kl_m, nl_m, sl_m])
  have m3' : w7.cell? ⟨w4.heap.size + 1, 3, none⟩ = some (.int .i64 0) := Below.keeps hb0 _ _ (by simp [go_sem, a0, a1, a2, a3, k0, k1, k2, k3, n0, n1, n2, n3, s0, s1, s2, s3, m0, m1, m2, m3, mf, al_m, kl_m, nl_m, sl_m])
  replace m0 := m0'
  clear m0'
  replace m1 := m1'
  clear m1'
  replace m2 := m2'
  clear m2'
  replace m3 := m3'
  clear m3'
  replace mf : ∀ k, w7.frozen? ⟨w4.heap.size + 1, k, none⟩ = false := by intro k; rw [hb0.frozen (by first | (simp; done) | (simp; omega))]; simp [go_sem, mf]
  have hsz : w6.heap.size ≤ w7.heap.size := Nat.le_trans (by simp) hb0.size
  replace al := Nat.lt_of_lt_of_le al hsz
  replace kl := Nat.lt_of_lt_of_le kl hsz
  replace nl := Nat.lt_of_lt_of_le nl hsz
  replace sl := Nat.lt_of_lt_of_le sl hsz
  replace ml := Nat.lt_of_lt_of_le ml hsz
  replace HW : Below w.heap.size w w7 := below_trans (by repeat (first | exact HW | (refine Below.drew ?_) | (refine below_drewN' ?_ _) | (refine below_alloc' ?_ _) | (refine Below.setCell ?_ (by first | exact Nat.le_refl _ | (simp; done) | (simp; omega) | omega) _))) hb0
  clear hb0 hsz
  replace al_1 : w.heap.size < w7.heap.size + 1 := by omega
  replace al_2 : w.heap.size < w7.heap.size + 1 + 1 := by omega
  replace al_3 : w.heap.size < w7.heap.size + 1 + 1 + 1 := by omega
  replace al_4 : w.heap.size < w7.heap.size + 1 + 1 + 1 + 1 := by omega
  replace kl_1 : w2.heap.size < w7.heap.size + 1 := by omega
  replace kl_2 : w2.heap.size < w7.heap.size + 1 + 1 := by omega
  replace kl_3 : w2.heap.size < w7.heap.size + 1 + 1 + 1 := by omega
  replace kl_4 : w2.heap.size < w7.heap.size + 1 + 1 + 1 + 1 := by omega
  replace nl_1 : w3.heap.size < w7.heap.size + 1 := by omega
  replace nl_2 : w3.heap.size < w7.heap.size + 1 + 1 := by omega
  replace nl_3 : w3.heap.size < w7.heap.size + 1 + 1 + 1 := by omega
  replace nl_4 : w3.heap.size < w7.heap.size + 1 + 1 + 1 + 1 := by omega
  replace sl_1 : w4.heap.size < w7.heap.size + 1 := by omega
  replace sl_2 : w4.heap.size < w7.heap.size + 1 + 1 := by omega
  replace sl_3 : w4.heap.size < w7.heap.size + 1 + 1 + 1 := by omega
  replace sl_4 : w4.heap.size < w7.heap.size + 1 + 1 + 1 + 1 := by omega
  replace ml_1 : w4.heap.size + 1 < w7.heap.size + 1 := by omega
  replace ml_2 : w4.heap.size + 1 < w7.heap.size + 1 + 1 := by omega
  replace ml_3 : w4.heap.size + 1 < w7.heap.size + 1 + 1 + 1 := by omega
  replace ml_4 : w4.heap.size + 1 < w7.heap.size + 1 + 1 + 1 + 1 := by omega
  go_wp2_with fail
  rw [rounds_succ]
  go_wp2_with fail
  refine Calls.mono (tk'.out 3 _ (by omega) (by omega)) ?_
  rintro e w8 ⟨rfl, hb0⟩
  replace a0 : w8.cell? ⟨w.heap.size, 0, none⟩ = some (.int .i64 t) := Below.keeps hb0 _ _ (by simp [go_sem, a0, a1, a2, a3, k0, k1, k2, k3, n0, n1, n2, n3, s0, s1, s2, s3, m0, m1, m2, m3, mf, al_m, kl_m, nl_m, sl_m])
  replace a1 : w8.cell? ⟨w.heap.size, 1, none⟩ = some (.bool f) := Below.keeps hb0 _ _ (by simp [go_sem, a0, a1, a2, a3, k0, k1, k2, k3, n0, n1, n2, n3, s0, s1, s2, s3, m0, m1, m2, m3, mf, al_m, kl_m, nl_m, sl_m])
  replace a2 : w8.cell? ⟨w.heap.size, 2, none⟩ = some (.int .i64 x) := Below.keeps hb0 _ _ (by simp [go_sem, a0, a1, a2, a3, k0, k1, k2, k3, n0, n1, n2, n3, s0, s1, s2, s3, m0, m1, m2, m3, mf, al_m, kl_m, nl_m, sl_m])
  replace a3 : w8.cell? ⟨w.heap.size, 3, none⟩ = some (.int .i64 y) := Below.keeps hb0 _ _ (by simp [go_sem, a0, a1, a2, a3, k0, k1, k2, k3, n0, n1, n2, n3, s0, s1, s2, s3, m0, m1, m2, m3, mf, al_m, kl_m, nl_m, sl_m])
  replace k0 : w8.cell? ⟨w2.heap.size, 0, none⟩ = some (.int .i64 bt) := Below.keeps hb0 _ _ (by simp [go_sem, a0, a1, a2, a3, k0, k1, k2, k3, n0, n1, n2, n3, s0, s1, s2, s3, m0, m1, m2, m3, mf, al_m, kl_m, nl_m, sl_m])
  replace k1 : w8.cell? ⟨w2.heap.size, 1, none⟩ = some (.bool f) := Below.keeps hb0 _ _ (by simp [go_sem, a0, a1, a2, a3, k0, k1, k2, k3, n0, n1, n2, n3, s0, s1, s2, s3, m0, m1, m2, m3, mf, al_m, kl_m, nl_m, sl_m])
  replace k2 : w8.cell? ⟨w2.heap.size, 2, none⟩ = some (.int .i64 bx) := Below.keeps hb0 _ _ (by simp [go_sem, a0, a1, a2, a3, k0, k1, k2, k3, n0, n1, n2, n3, s0, s1, s2, s3, m0, m1, m2, m3, mf, al_m, kl_m, nl_m, sl_m])
  replace k3 : w8.cell? ⟨w2.heap.size, 3, none⟩ = some (.int .i64 bY) := Below.keeps hb0 _ _ (by simp [go_sem, a0, a1, a2, a3, k0, k1, k2, k3, n0, n1, n2, n3, s0, s1, s2, s3, m0, m1, m2, m3, mf, al_m, kl_m, nl_m, sl_m])
  replace n0 : w8.cell? ⟨w3.heap.size, 0, none⟩ = some (.int .i64 0) := Below.keeps hb0 _ _ (by simp [go_sem, a0, a1, a2, a3, k0, k1, k2, k3, n0, n1, n2, n3, s0, s1, s2, s3, m0, m1, m2, m3, mf, al_m, kl_m, nl_m, sl_m])
  replace n1 : w8.cell? ⟨w3.heap.size, 1, none⟩ = some (.bool false) := Below.keeps hb0 _ _ (by simp [go_sem, a0, a1, a2, a3, k0, k1, k2, k3, n0, n1, n2, n3, s0, s1, s2, s3, m0, m1, m2, m3, mf, al_m, kl_m, nl_m, sl_m])
  replace n2 : w8.cell? ⟨w3.heap.size, 2, none⟩ = some (.int .i64 0) := Below.keeps hb0 _ _ (by simp [go_sem, a0, a1, a2, a3, k0, k1, k2, k3, n0, n1, n2, n3, s0, s1, s2, s3, m0, m1, m2, m3, mf, al_m, kl_m, nl_m, sl_m])
  replace n3 : w8.cell? ⟨w3.heap.size, 3, none⟩ = some (.int .i64 0) := Below.keeps hb0 _ _ (by simp [go_sem, a0, a1, a2, a3, k0, k1, k2, k3, n0, n1, n2, n3, s0, s1, s2, s3, m0, m1, m2, m3, mf, al_m, kl_m, nl_m, sl_m])
  replace s0 : w8.cell? ⟨w4.heap.size, 0, none⟩ = some (.int .i64 0) := Below.keeps hb0 _ _ (by simp [go_sem, a0, a1, a2, a3, k0, k1, k2, k3, n0, n1, n2, n3, s0, s1, s2, s3, m0, m1, m2, m3, mf, al_m, kl_m, nl_m, sl_m])
  replace s1 : w8.cell? ⟨w4.heap.size, 1, none⟩ = some (.bool false) := Below.keeps hb0 _ _ (by simp [go_sem, a0, a1, a2, a3, k0, k1, k2, k3, n0, n1, n2, n3, s0, s1, s2, s3, m0, m1, m2, m3, mf, al_m, kl_m, nl_m, sl_m])
  replace s2 : w8.cell? ⟨w4.heap.size, 2, none⟩ = some (.int .i64 0) := Below.keeps hb0 _ _ (by simp [go_sem, a0, a1, a2, a3, k0, k1, k2, k3, n0, n1, n2, n3, s0, s1, s2, s3, m0, m1, m2, m3, mf, al_m, kl_m, nl_m, sl_m])
  replace s3 : w8.cell? ⟨w4.heap.size, 3, none⟩ = some (.int .i64 0) := Below.keeps hb0 _ _ (by simp [go_sem, a0, a1, a2, a3, k0, k1, k2, k3, n0, n1, n2, n3, s0, s1, s2, s3, m0, m1, m2, m3, mf, al_m, kl_m, nl_m, sl_m])
  have m0' : w8.cell? ⟨w4.heap.size + 1, 0, none⟩ = some (.int .i64 3) := Below.keeps hb0 _ _ (by simp [go_sem, a0, a1, a2, a3, k0, k1, k2, k3, n0, n1, n2, n3, s0, s1, s2, s3, m0, m1, m2, m3, mf, al_m, kl_m, nl_m, sl_m])
  have m1' : w8.cell? ⟨w4.heap.size + 1, 1, none⟩ = some (.bool false) := Below.keeps hb0 _ _ (by simp [go_sem, a0, a1, a2, a3, k0, k1, k2, k3, n0, n1, n2, n3, s0, s1, s2, s3, m0, m1, m2, m3, mf, al_m, kl_m, nl_m, sl_m])
  have m2' : w8.cell? ⟨w4.heap.size + 1, 2, none⟩ = some (.int .i64 0) := Below.keeps hb0 _ _ (by simp [go_sem, a0, a1, a2, a3, k0, k1, k2, k3, n0, n1, n2, n3, s0, s1, s2, s3, m0, m1, m2, m3, mf, al_m, kl_m, nl_m, sl_m])
  have m3' : w8.cell? ⟨w4.heap.size + 1, 3, none⟩ = some (.int .i64 0) := Below.keeps hb0 _ _ (by simp [go_sem, a0, a1, a2, a3, k0, k1, k2, k3, n0, n1, n2, n3, s0, s1, s2, s3, m0, m1, m2, m3, mf, al_m, kl_m, nl_m, sl_m])
  replace m0 := m0'
  clear m0'
  replace m1 := m1'
  clear m1'
  replace m2 := m2'
  clear m2'
  replace m3 := m3'
  clear m3'
  replace mf : ∀ k, w8.frozen? ⟨w4.heap.size + 1, k, none⟩ = false := by intro k; rw [hb0.frozen (by first | (simp; done) | (simp; omega))]; simp [go_sem, mf]
  have hsz : w7.heap.size ≤ w8.heap.size := Nat.le_trans (by simp) hb0.size
  replace al := Nat.lt_of_lt_of_le al hsz
  replace kl := Nat.lt_of_lt_of_le kl hsz
  replace nl := Nat.lt_of_lt_of_le nl hsz
  replace sl := Nat.lt_of_lt_of_le sl hsz
  replace ml := Nat.lt_of_lt_of_le ml hsz
  replace HW : Below w.heap.size w w8 := below_trans (by repeat (first | exact HW | (refine Below.drew ?_) | (refine below_drewN' ?_ _) | (refine below_alloc' ?_ _) | (refine Below.setCell ?_ (by first | exact Nat.le_refl _ | (simp; done) | (simp; omega) | omega) _))) hb0
  clear hb0 hsz
  replace al_1 : w.heap.size < w8.heap.size + 1 := by omega
  replace al_2 : w.heap.size < w8.heap.size + 1 + 1 := by omega
  replace al_3 : w.heap.size < w8.heap.size + 1 + 1 + 1 := by omega
  replace al_4 : w.heap.size < w8.heap.size + 1 + 1 + 1 + 1 := by omega
  replace kl_1 : w2.heap.size < w8.heap.size + 1 := by omega
  replace kl_2 : w2.heap.size < w8.heap.size + 1 + 1 := by omega
  replace kl_3 : w2.heap.size < w8.heap.size + 1 + 1 + 1 := by omega
  replace kl_4 : w2.heap.size < w8.heap.size + 1 + 1 + 1 + 1 := by omega
  replace nl_1 : w3.heap.size < w8.heap.size + 1 := by omega
  replace nl_2 : w3.heap.size < w8.heap.size + 1 + 1 := by omega
  replace nl_3 : w3.heap.size < w8.heap.size + 1 + 1 + 1 := by omega
  replace nl_4 : w3.heap.size < w8.heap.size + 1 + 1 + 1 + 1 := by omega
  replace sl_1 : w4.heap.size < w8.heap.size + 1 := by omega
  replace sl_2 : w4.heap.size < w8.heap.size + 1 + 1 := by omega
  replace sl_3 : w4.heap.size < w8.heap.size + 1 + 1 + 1 := by omega
  replace sl_4 : w4.heap.size < w8.heap.size + 1 + 1 + 1 + 1 := by omega
  replace ml_1 : w4.heap.size + 1 < w8.heap.size + 1 := by omega
  replace ml_2 : w4.heap.size + 1 < w8.heap.size + 1 + 1 := by omega
  replace ml_3 : w4.heap.size + 1 < w8.heap.size + 1 + 1 + 1 := by omega
  replace ml_4 : w4.heap.size + 1 < w8.heap.size + 1 + 1 + 1 + 1 := by omega
  go_wp2_with fail
  rw [rounds_succ]
  go_wp2_with fail
  refine Calls.mono (t2'.out _) ?_
  rintro e w9 ⟨rfl, hb0⟩
  replace a0 : w9.cell? ⟨w.heap.size, 0, none⟩ = some (.int .i64 t) := Below.keeps hb0 _ _ (by simp [go_sem, a0, a1, a2, a3, k0, k1, k2, k3, n0, n1, n2, n3, s0, s1, s2, s3, m0, m1, m2, m3, mf, al_m, kl_m, nl_m, sl_m])
  replace a1 : w9.cell? ⟨w.heap.size, 1, none⟩ = some (.bool f) := Below.keeps hb0 _ _ (by simp [go_sem, a0, a1, a2, a3, k0, k1, k2, k3, n0, n1, n2, n3, s0, s1, s2, s3, m0, m1, m2, m3, mf, al_m, kl_m, nl_m, sl_m])
  replace a2 : w9.cell? ⟨w.heap.size, 2, none⟩ = some (.int .i64 x) := Below.keeps hb0 _ _ (by simp [go_sem, a0, a1, a2, a3, k0, k1, k2, k3, n0, n1, n2, n3, s0, s1, s2, s3, m0, m1, m2, m3, mf, al_m, kl_m, nl_m, sl_m])
  replace a3 : w9.cell? ⟨w.heap.size, 3, none⟩ = some (.int .i64 y) := Below.keeps hb0 _ _ (by simp [go_sem, a0, a1, a2, a3, k0, k1, k2, k3, n0, n1, n2, n3, s0, s1, s2, s3, m0, m1, m2, m3, mf, al_m, kl_m, nl_m, sl_m])
  replace k0 : w9.cell? ⟨w2.heap.size, 0, none⟩ = some (.int .i64 bt) := Below.keeps hb0 _ _ (by simp [go_sem, a0, a1, a2, a3, k0, k1, k2, k3, n0, n1, n2, n3, s0, s1, s2, s3, m0, m1, m2, m3, mf, al_m, kl_m, nl_m, sl_m])
  replace k1 : w9.cell? ⟨w2.heap.size, 1, none⟩ = some (.bool f) := Below.keeps hb0 _ _ (by simp [go_sem, a0, a1, a2, a3, k0, k1, k2, k3, n0, n1, n2, n3, s0, s1, s2, s3, m0, m1, m2, m3, mf, al_m, kl_m, nl_m, sl_m])
  replace k2 : w9.cell? ⟨w2.heap.size, 2, none⟩ = some (.int .i64 bx) := Below.keeps hb0 _ _ (by simp [go_sem, a0, a1, a2, a3, k0, k1, k2, k3, n0, n1, n2, n3, s0, s1, s2, s3, m0, m1, m2, m3, mf, al_m, kl_m, nl_m, sl_m])
  replace k3 : w9.cell? ⟨w2.heap.size, 3, none⟩ = some (.int .i64 bY) := Below.keeps hb0 _ _ (by simp [go_sem, a0, a1, a2, a3, k0, k1, k2, k3, n0, n1, n2, n3, s0, s1, s2, s3, m0, m1, m2, m3, mf, al_m, kl_m, nl_m, sl_m])
  replace n0 : w9.cell? ⟨w3.heap.size, 0, none⟩ = some (.int .i64 0) := Below.keeps hb0 _ _ (by simp [go_sem, a0, a1, a2, a3, k0, k1, k2, k3, n0, n1, n2, n3, s0, s1, s2, s3, m0, m1, m2, m3, mf, al_m, kl_m, nl_m, sl_m])
  replace n1 : w9.cell? ⟨w3.heap.size, 1, none⟩ = some (.bool false) := Below.keeps hb0 _ _ (by simp [go_sem, a0, a1, a2, a3, k0, k1, k2, k3, n0, n1, n2, n3, s0, s1, s2, s3, m0, m1, m2, m3, mf, al_m, kl_m, nl_m, sl_m])
  replace n2 : w9.cell? ⟨w3.heap.size, 2, none⟩ = some (.int .i64 0) := Below.keeps hb0 _ _ (by simp [go_sem, a0, a1, a2, a3, k0, k1, k2, k3, n0, n1, n2, n3, s0, s1, s2, s3, m0, m1, m2, m3, mf, al_m, kl_m, nl_m, sl_m])
  replace n3 : w9.cell? ⟨w3.heap.size, 3, none⟩ = some (.int .i64 0) := Below.keeps hb0 _ _ (by simp [go_sem, a0, a1, a2, a3, k0, k1, k2, k3, n0, n1, n2, n3, s0, s1, s2, s3, m0, m1, m2, m3, mf, al_m, kl_m, nl_m, sl_m])
  replace s0 : w9.cell? ⟨w4.heap.size, 0, none⟩ = some (.int .i64 0) := Below.keeps hb0 _ _ (by simp [go_sem, a0, a1, a2, a3, k0, k1, k2, k3, n0, n1, n2, n3, s0, s1, s2, s3, m0, m1, m2, m3, mf, al_m, kl_m, nl_m, sl_m])
  replace s1 : w9.cell? ⟨w4.heap.size, 1, none⟩ = some (.bool false) := Below.keeps hb0 _ _ (by simp [go_sem, a0, a1, a2, a3, k0, k1, k2, k3, n0, n1, n2, n3, s0, s1, s2, s3, m0, m1, m2, m3, mf, al_m, kl_m, nl_m, sl_m])
  replace s2 : w9.cell? ⟨w4.heap.size, 2, none⟩ = some (.int .i64 0) := Below.keeps hb0 _ _ (by simp [go_sem, a0, a1, a2, a3, k0, k1, k2, k3, n0, n1, n2, n3, s0, s1, s2, s3, m0, m1, m2, m3, mf, al_m, kl_m, nl_m, sl_m])
  replace s3 : w9.cell? ⟨w4.heap.size, 3, none⟩ = some (.int .i64 0) := Below.keeps hb0 _ _ (by simp [go_sem, a0, a1, a2, a3, k0, k1, k2, k3, n0, n1, n2, n3, s0, s1, s2, s3, m0, m1, m2, m3, mf, al_m, kl_m, nl_m, sl_m])
  have m0' : w9.cell? ⟨w4.heap.size + 1, 0, none⟩ = some (.int .i64 0) := Below.keeps hb0 _ _ (by simp [go_sem, a0, a1, a2, a3, k0, k1, k2, k3, n0, n1, n2, n3, s0, s1, s2, s3, m0, m1, m2, m3, mf, al_m, kl_m, nl_m, sl_m])
  have m1' : w9.cell? ⟨w4.heap.size + 1, 1, none⟩ = some (.bool false) := Below.keeps hb0 _ _ (by simp [go_sem, a0, a1, a2, a3, k0, k1, k2, k3, n0, n1, n2, n3, s0, s1, s2, s3, m0, m1, m2, m3, mf, al_m, kl_m, nl_m, sl_m])
  have m2' : w9.cell? ⟨w4.heap.size + 1, 2, none⟩ = some (.int .i64 0) := Below.keeps hb0 _ _ (by simp [go_sem, a0, a1, a2, a3, k0, k1, k2, k3, n0, n1, n2, n3, s0, s1, s2, s3, m0, m1, m2, m3, mf, al_m, kl_m, nl_m, sl_m])
  have m3' : w9.cell? ⟨w4.heap.size + 1, 3, none⟩ = some (.int .i64 0) := Below.keeps hb0 _ _ (by simp [go_sem, a0, a1, a2, a3, k0, k1, k2, k3, n0, n1, n2, n3, s0, s1, s2, s3, m0, m1, m2, m3, mf, al_m, kl_m, nl_m, sl_m])
  replace m0 := m0'
  clear m0'
  replace m1 := m1'
  clear m1'
  replace m2 := m2'
  clear m2'
  replace m3 := m3'
  clear m3'
  replace mf : ∀ k, w9.frozen? ⟨w4.heap.size + 1, k, none⟩ = false := by intro k; rw [hb0.frozen (by first | (simp; done) | (simp; omega))]; simp [go_sem, mf]
  have hsz : w8.heap.size ≤ w9.heap.size := Nat.le_trans (by simp) hb0.size
  replace al := Nat.lt_of_lt_of_le al hsz
  replace kl := Nat.lt_of_lt_of_le kl hsz
  replace nl := Nat.lt_of_lt_of_le nl hsz
  replace sl := Nat.lt_of_lt_of_le sl hsz
  replace ml := Nat.lt_of_lt_of_le ml hsz
  replace HW : Below w.heap.size w w9 := below_trans (by repeat (first | exact HW | (refine Below.drew ?_) | (refine below_drewN' ?_ _) | (refine below_alloc' ?_ _) | (refine Below.setCell ?_ (by first | exact Nat.le_refl _ | (simp; done) | (simp; omega) | omega) _))) hb0
  clear hb0 hsz
  replace al_1 : w.heap.size < w9.heap.size + 1 := by omega
  replace al_2 : w.heap.size < w9.heap.size + 1 + 1 := by omega
  replace al_3 : w.heap.size < w9.heap.size + 1 + 1 + 1 := by omega
  replace al_4 : w.heap.size < w9.heap.size + 1 + 1 + 1 + 1 := by omega
  replace kl_1 : w2.heap.size < w9.heap.size + 1 := by omega
  replace kl_2 : w2.heap.size < w9.heap.size + 1 + 1 := by omega
  replace kl_3 : w2.heap.size < w9.heap.size + 1 + 1 + 1 := by omega
  replace kl_4 : w2.heap.size < w9.heap.size + 1 + 1 + 1 + 1 := by omega
  replace nl_1 : w3.heap.size < w9.heap.size + 1 := by omega
  replace nl_2 : w3.heap.size < w9.heap.size + 1 + 1 := by omega
  replace nl_3 : w3.heap.size < w9.heap.size + 1 + 1 + 1 := by omega
  replace nl_4 : w3.heap.size < w9.heap.size + 1 + 1 + 1 + 1 := by omega
  replace sl_1 : w4.heap.size < w9.heap.size + 1 := by omega
  replace sl_2 : w4.heap.size < w9.heap.size + 1 + 1 := by omega
  replace sl_3 : w4.heap.size < w9.heap.size + 1 + 1 + 1 := by omega
  replace sl_4 : w4.heap.size < w9.heap.size + 1 + 1 + 1 + 1 := by omega
  replace ml_1 : w4.heap.size + 1 < w9.heap.size + 1 := by omega
  replace ml_2 : w4.heap.size + 1 < w9.heap.size + 1 + 1 := by omega
  replace ml_3 : w4.heap.size + 1 < w9.heap.size + 1 + 1 + 1 := by omega
  replace ml_4 : w4.heap.size + 1 < w9.heap.size + 1 + 1 + 1 + 1 := by omega
  go_wp2_with fail
  refine Calls.mono (mp'.out _ _ ?_) ?_
  · exact RdU.below hp (below_trans HW (by repeat (first | exact Below.refl _ _ | assumption | (refine Below.drew ?_) | (refine below_drewN' ?_ _) | (refine below_alloc' ?_ _) | (refine Below.setCell ?_ (by first | exact Nat.le_refl _ | (simp; done) | (simp; omega)) _))))
  rintro e w10 ⟨v1, rfl, hv1, hb0⟩
  have HB : Below w9.heap.size w9 w10 := below_trans (by repeat (first | exact Below.refl _ _ | assumption | (refine Below.drew ?_) | (refine below_drewN' ?_ _) | (refine below_alloc' ?_ _) | (refine Below.setCell ?_ (by first | exact Nat.le_refl _ | (simp; done) | (simp; omega)) _))) hb0
  clear hb0
  replace a0 := Below.keeps HB _ _ a0
  replace a1 := Below.keeps HB _ _ a1
  replace a2 := Below.keeps HB _ _ a2
  replace a3 := Below.keeps HB _ _ a3
  replace k0 := Below.keeps HB _ _ k0
  replace k1 := Below.keeps HB _ _ k1
  replace k2 := Below.keeps HB _ _ k2
  replace k3 := Below.keeps HB _ _ k3
  replace n0 := Below.keeps HB _ _ n0
  replace n1 := Below.keeps HB _ _ n1
  replace n2 := Below.keeps HB _ _ n2
  replace n3 := Below.keeps HB _ _ n3
  replace s0 := Below.keeps HB _ _ s0
  replace s1 := Below.keeps HB _ _ s1
  replace s2 := Below.keeps HB _ _ s2
  replace s3 := Below.keeps HB _ _ s3
  replace m0 := Below.keeps HB _ _ m0
  replace m1 := Below.keeps HB _ _ m1
  replace m2 := Below.keeps HB _ _ m2
  replace m3 := Below.keeps HB _ _ m3
  replace mf := fun k => (HB.frozen (p := ⟨w4.heap.size + 1, k, none⟩) ml).trans (mf k)
  replace al := Nat.lt_of_lt_of_le al HB.size
  replace kl := Nat.lt_of_lt_of_le kl HB.size
  replace nl := Nat.lt_of_lt_of_le nl HB.size
  replace sl := Nat.lt_of_lt_of_le sl HB.size
  replace ml := Nat.lt_of_lt_of_le ml HB.size
  replace HW := below_trans HW HB
  clear HB
  replace al_1 : w.heap.size < w10.heap.size + 1 := by omega
  replace al_2 : w.heap.size < w10.heap.size + 1 + 1 := by omega
  replace al_3 : w.heap.size < w10.heap.size + 1 + 1 + 1 := by omega
  replace al_4 : w.heap.size < w10.heap.size + 1 + 1 + 1 + 1 := by omega
  replace kl_1 : w2.heap.size < w10.heap.size + 1 := by omega
  replace kl_2 : w2.heap.size < w10.heap.size + 1 + 1 := by omega
  replace kl_3 : w2.heap.size < w10.heap.size + 1 + 1 + 1 := by omega
  replace kl_4 : w2.heap.size < w10.heap.size + 1 + 1 + 1 + 1 := by omega
  replace nl_1 : w3.heap.size < w10.heap.size + 1 := by omega
  replace nl_2 : w3.heap.size < w10.heap.size + 1 + 1 := by omega
  replace nl_3 : w3.heap.size < w10.heap.size + 1 + 1 + 1 := by omega
  replace nl_4 : w3.heap.size < w10.heap.size + 1 + 1 + 1 + 1 := by omega
  replace sl_1 : w4.heap.size < w10.heap.size + 1 := by omega
  replace sl_2 : w4.heap.size < w10.heap.size + 1 + 1 := by omega
  replace sl_3 : w4.heap.size < w10.heap.size + 1 + 1 + 1 := by omega
  replace sl_4 : w4.heap.size < w10.heap.size + 1 + 1 + 1 + 1 := by omega
  replace ml_1 : w4.heap.size + 1 < w10.heap.size + 1 := by omega
  replace ml_2 : w4.heap.size + 1 < w10.heap.size + 1 + 1 := by omega
  replace ml_3 : w4.heap.size + 1 < w10.heap.size + 1 + 1 + 1 := by omega
  replace ml_4 : w4.heap.size + 1 < w10.heap.size + 1 + 1 + 1 + 1 := by omega
  go_wp2_with fail
  refine Calls.mono (mq'.out _ _ ?_) ?_
  · exact RdU.below hq (below_trans HW (by repeat (first | exact Below.refl _ _ | assumption | (refine Below.drew ?_) | (refine below_drewN' ?_ _) | (refine below_alloc' ?_ _) | (refine Below.setCell ?_ (by first | exact Nat.le_refl _ | (simp; done) | (simp; omega)) _))))
  rintro e w11 ⟨v2, rfl, hv2, hb0⟩
  have HB : Below w10.heap.size w10 w11 := below_trans (by repeat (first | exact Below.refl _ _ | assumption | (refine Below.drew ?_) | (refine below_drewN' ?_ _) | (refine below_alloc' ?_ _) | (refine Below.setCell ?_ (by first | exact Nat.le_refl _ | (simp; done) | (simp; omega)) _))) hb0
  clear hb0
  replace a0 := Below.keeps HB _ _ a0
  replace a1 := Below.keeps HB _ _ a1
  replace a2 := Below.keeps HB _ _ a2
  replace a3 := Below.keeps HB _ _ a3
  replace k0 := Below.keeps HB _ _ k0
  replace k1 := Below.keeps HB _ _ k1
  replace k2 := Below.keeps HB _ _ k2
  replace k3 := Below.keeps HB _ _ k3
  replace n0 := Below.keeps HB _ _ n0
  replace n1 := Below.keeps HB _ _ n1
  replace n2 := Below.keeps HB _ _ n2
  replace n3 := Below.keeps HB _ _ n3
  replace s0 := Below.keeps HB _ _ s0
  replace s1 := Below.keeps HB _ _ s1
  replace s2 := Below.keeps HB _ _ s2
  replace s3 := Below.keeps HB _ _ s3
  replace m0 := Below.keeps HB _ _ m0
  replace m1 := Below.keeps HB _ _ m1
  replace m2 := Below.keeps HB _ _ m2
  replace m3 := Below.keeps HB _ _ m3
  replace mf := fun k => (HB.frozen (p := ⟨w4.heap.size + 1, k, none⟩) ml).trans (mf k)
  replace al := Nat.lt_of_lt_of_le al HB.size
  replace kl := Nat.lt_of_lt_of_le kl HB.size
  replace nl := Nat.lt_of_lt_of_le nl HB.size
  replace sl := Nat.lt_of_lt_of_le sl HB.size
  replace ml := Nat.lt_of_lt_of_le ml HB.size
  replace HW := below_trans HW HB
  clear HB
  replace al_1 : w.heap.size < w11.heap.size + 1 := by omega
  replace al_2 : w.heap.size < w11.heap.size + 1 + 1 := by omega
  replace al_3 : w.heap.size < w11.heap.size + 1 + 1 + 1 := by omega
  replace al_4 : w.heap.size < w11.heap.size + 1 + 1 + 1 + 1 := by omega
  replace kl_1 : w2.heap.size < w11.heap.size + 1 := by omega
  replace kl_2 : w2.heap.size < w11.heap.size + 1 + 1 := by omega
  replace kl_3 : w2.heap.size < w11.heap.size + 1 + 1 + 1 := by omega
  replace kl_4 : w2.heap.size < w11.heap.size + 1 + 1 + 1 + 1 := by omega
  replace nl_1 : w3.heap.size < w11.heap.size + 1 := by omega
  replace nl_2 : w3.heap.size < w11.heap.size + 1 + 1 := by omega
  replace nl_3 : w3.heap.size < w11.heap.size + 1 + 1 + 1 := by omega
  replace nl_4 : w3.heap.size < w11.heap.size + 1 + 1 + 1 + 1 := by omega
  replace sl_1 : w4.heap.size < w11.heap.size + 1 := by omega
  replace sl_2 : w4.heap.size < w11.heap.size + 1 + 1 := by omega
  replace sl_3 : w4.heap.size < w11.heap.size + 1 + 1 + 1 := by omega
  replace sl_4 : w4.heap.size < w11.heap.size + 1 + 1 + 1 + 1 := by omega
  replace ml_1 : w4.heap.size + 1 < w11.heap.size + 1 := by omega
  replace ml_2 : w4.heap.size + 1 < w11.heap.size + 1 + 1 := by omega
  replace ml_3 : w4.heap.size + 1 < w11.heap.size + 1 + 1 + 1 := by omega
  replace ml_4 : w4.heap.size + 1 < w11.heap.size + 1 + 1 + 1 + 1 := by omega
  go_wp2_with fail
  go_ret
  exact ⟨rfl, below_trans HW (by repeat (first | exact Below.refl _ _ | assumption | (refine Below.drew ?_) | (refine below_drewN' ?_ _) | (refine below_alloc' ?_ _) | (refine Below.setCell ?_ (by first | exact Nat.le_refl _ | (simp; done) | (simp; omega)) _)))⟩

set_option maxRecDepth 100000 in
set_option maxHeartbeats 8000000 in
theorem group_fine (t : Int) (f : Bool) (x y : Int) (vp vq : Value) (ps qs : List Int) (w : World) (hp : RdU w vp ps) (hq : RdU w vq qs) (D : Int) (hr : Pl.rightB t x y = true) (h1 : Pl.smallB ps = true) (h2 : Pl.smallB qs = true) (bt bx bY : Int) (bk : ∀ w : World, Calls Try.prog 21 #[Mo t f x y] w fun e w' => e = .returned (.tuple #[Mo bt f bx bY, .int .i64 0]) ∧ Below w.heap.size w w') (ta : ∀ w : World, Calls Try.prog 22 #[Mo t f x y, Mo bt f bx bY] w fun e w' => e = .returned (.tuple #[Mz, .int .i64 0]) ∧ Below w.heap.size w w') (tb : ∀ w : World, Calls Try.prog 22 #[Mo bt f bx bY, Mo t f x y] w fun e w' => e = .returned (.tuple #[Mz, .int .i64 0]) ∧ Below w.heap.size w w') (tk : ∀ (k : Int) (w : World), 0 ≤ k → k ≤ 3 → Calls Try.prog 22 #[Mo k false 0 0, Mo 1 false 0 0] w fun e w' => e = .returned (.tuple #[Mo ((k + 1) % 4) false 0 0, .int .i64 0]) ∧ Below w.heap.size w w') (t2 : ∀ w : World, Calls Try.prog 22 #[Mo t true 0 0, Mo t true 0 0] w fun e w' => e = .returned (.tuple #[Mz, .int .i64 0]) ∧ Below w.heap.size w w') (X Y Z V p1 p2 q1 q2 : Int) (eps : ps = [p1, p2]) (eqs : qs = [q1, q2]) (mp : ∀ (w : World) (v : Value), RdU w v ps → Calls Try.prog 20 #[Mo t f x y, v] w (RetPt w ([X, Y], 0))) (mq : ∀ (w : World) (v : Value), RdU w v qs → Calls Try.prog 20 #[Mo t f x y, v] w (RetPt w ([Z, V], 0))) (F1 : ∀ (w : World) (v u : Value), RdU w v [X, Y] → RdU w u [Z, V] → Calls Try.prog 27 #[v, u] w fun e w' => e = .returned (.int .i64 D) ∧ ∃ n, w' = w.drewN n) (F2 : ∀ (w : World) (v u : Value), RdU w v [p1, p2] → RdU w u [q1, q2] → Calls Try.prog 27 #[v, u] w fun e w' => e = .returned (.int .i64 D) ∧ ∃ n, w' = w.drewN n) :
    Calls Try.prog 5 #[Mo t f x y, vp, vq] w fun e w' => e = .returned (.bool true) ∧ Below w.heap.size w w' := by
  have hr' := Lib.hid hr
  have h1' := Lib.hid h1
  have h2' := Lib.hid h2
  have bk' := Lib.hid bk
  have ta' := Lib.hid ta
  have tb' := Lib.hid tb
  have tk' := Lib.hid tk
  have t2' := Lib.hid t2
  have mp' := Lib.hid mp
  have mq' := Lib.hid mq
  have F1' := Lib.hid F1
  have F2' := Lib.hid F2
  have eps' := Lib.hid eps
  have eqs' := Lib.hid eqs
  clear hr h1 h2 bk ta tb tk t2 mp mq F1 F2 eps eqs
  go_enter Try.func5, Try.ntmps5
  go_wp2_with fail
  refine Calls.mono (awake27 _) ?_
  rintro e w1 ⟨rfl, hb0⟩
  have a0 : w1.cell? ⟨w.heap.size, 0, none⟩ = some (.int .i64 t) := Below.keeps hb0 _ _ (by simp [go_sem])
  have a1 : w1.cell? ⟨w.heap.size, 1, none⟩ = some (.bool f) := Below.keeps hb0 _ _ (by simp [go_sem])
  have a2 : w1.cell? ⟨w.heap.size, 2, none⟩ = some (.int .i64 x) := Below.keeps hb0 _ _ (by simp [go_sem])
  have a3 : w1.cell? ⟨w.heap.size, 3, none⟩ = some (.int .i64 y) := Below.keeps hb0 _ _ (by simp [go_sem])
  have HB : Below w.heap.size w w1 := below_trans (by repeat (first | exact Below.refl _ _ | assumption | (refine Below.drew ?_) | (refine below_drewN' ?_ _) | (refine below_alloc' ?_ _) | (refine Below.setCell ?_ (by first | exact Nat.le_refl _ | (simp; done) | (simp; omega)) _))) hb0
  clear hb0
  have HW := HB
  clear HB
  have al : w.heap.size < w1.heap.size := World.block_lt_of_cell? w1 _ a0
  have al_1 : w.heap.size < w1.heap.size + 1 := by omega
  have al_2 : w.heap.size < w1.heap.size + 1 + 1 := by omega
  have al_3 : w.heap.size < w1.heap.size + 1 + 1 + 1 := by omega
  have al_4 : w.heap.size < w1.heap.size + 1 + 1 + 1 + 1 := by omega
  go_wp2_with fail
  refine Calls.mono (RefRight_any t x y _) ?_
  rintro e w5 ⟨rfl, rfl⟩
  rw [hr'.out]
  go_wp2_with fail
  refine Calls.mono (Small_any _ ps _ ?_) ?_
  · exact RdU.below hp (below_trans HW (by repeat (first | exact Below.refl _ _ | assumption | (refine Below.drew ?_) | (refine below_drewN' ?_ _) | (refine below_alloc' ?_ _) | (refine Below.setCell ?_ (by first | exact Nat.le_refl _ | (simp; done) | (simp; omega)) _))))
  rintro e w5 ⟨rfl, rfl⟩
  rw [h1'.out]
  go_wp2_with fail
  refine Calls.mono (Small_any _ qs _ ?_) ?_
  · exact RdU.below hq (below_trans HW (by repeat (first | exact Below.refl _ _ | assumption | (refine Below.drew ?_) | (refine below_drewN' ?_ _) | (refine below_alloc' ?_ _) | (refine Below.setCell ?_ (by first | exact Nat.le_refl _ | (simp; done) | (simp; omega)) _))))
  rintro e w5 ⟨rfl, rfl⟩
  rw [h2'.out]
  go_wp2_with fail
  refine Calls.mono (bk'.out _) ?_
  rintro e w2 ⟨rfl, hb0⟩
  have HB : Below w1.heap.size w1 w2 := below_trans (by repeat (first | exact Below.refl _ _ | assumption | (refine Below.drew ?_) | (refine below_drewN' ?_ _) | (refine below_alloc' ?_ _) | (refine Below.setCell ?_ (by first | exact Nat.le_refl _ | (simp; done) | (simp; omega)) _))) hb0
  clear hb0
  replace a0 := Below.keeps HB _ _ a0
  replace a1 := Below.keeps HB _ _ a1
  replace a2 := Below.keeps HB _ _ a2
  replace a3 := Below.keeps HB _ _ a3
  replace al := Nat.lt_of_lt_of_le al HB.size
  replace HW := below_trans HW HB
  clear HB
  replace al_1 : w.heap.size < w2.heap.size + 1 := by omega
  replace al_2 : w.heap.size < w2.heap.size + 1 + 1 := by omega
  replace al_3 : w.heap.size < w2.heap.size + 1 + 1 + 1 := by omega
  replace al_4 : w.heap.size < w2.heap.size + 1 + 1 + 1 + 1 := by omega
  go_wp2_with fail
  refine Calls.mono (ta'.out _) ?_
  rintro e w3 ⟨rfl, hb0⟩
  have k0 : w3.cell? ⟨w2.heap.size, 0, none⟩ = some (.int .i64 bt) := Below.keeps hb0 _ _ (by simp [go_sem])
  have k1 : w3.cell? ⟨w2.heap.size, 1, none⟩ = some (.bool f) := Below.keeps hb0 _ _ (by simp [go_sem])
  have k2 : w3.cell? ⟨w2.heap.size, 2, none⟩ = some (.int .i64 bx) := Below.keeps hb0 _ _ (by simp [go_sem])
  have k3 : w3.cell? ⟨w2.heap.size, 3, none⟩ = some (.int .i64 bY) := Below.keeps hb0 _ _ (by simp [go_sem])
  have HB : Below w2.heap.size w2 w3 := below_trans (by repeat (first | exact Below.refl _ _ | assumption | (refine Below.drew ?_) | (refine below_drewN' ?_ _) | (refine below_alloc' ?_ _) | (refine Below.setCell ?_ (by first | exact Nat.le_refl _ | (simp; done) | (simp; omega)) _))) hb0
  clear hb0
  replace a0 := Below.keeps HB _ _ a0
  replace a1 := Below.keeps HB _ _ a1
  replace a2 := Below.keeps HB _ _ a2
  replace a3 := Below.keeps HB _ _ a3
  replace al := Nat.lt_of_lt_of_le al HB.size
  replace HW := below_trans HW HB
  clear HB
  have kl : w2.heap.size < w3.heap.size := World.block_lt_of_cell? w3 _ k0
  replace al_1 : w.heap.size < w3.heap.size + 1 := by omega
  replace al_2 : w.heap.size < w3.heap.size + 1 + 1 := by omega
  replace al_3 : w.heap.size < w3.heap.size + 1 + 1 + 1 := by omega
  replace al_4 : w.heap.size < w3.heap.size + 1 + 1 + 1 + 1 := by omega
  have kl_1 : w2.heap.size < w3.heap.size + 1 := by omega
  have kl_2 : w2.heap.size < w3.heap.size + 1 + 1 := by omega
  have kl_3 : w2.heap.size < w3.heap.size + 1 + 1 + 1 := by omega
  have kl_4 : w2.heap.size < w3.heap.size + 1 + 1 + 1 + 1 := by omega
  go_wp2_with fail
  refine Calls.mono (tb'.out _) ?_
  rintro e w4 ⟨rfl, hb0⟩
  have n0 : w4.cell? ⟨w3.heap.size, 0, none⟩ = some (.int .i64 0) := Below.keeps hb0 _ _ (by simp [go_sem])
  have n1 : w4.cell? ⟨w3.heap.size, 1, none⟩ = some (.bool false) := Below.keeps hb0 _ _ (by simp [go_sem])
  have n2 : w4.cell? ⟨w3.heap.size, 2, none⟩ = some (.int .i64 0) := Below.keeps hb0 _ _ (by simp [go_sem])
  have n3 : w4.cell? ⟨w3.heap.size, 3, none⟩ = some (.int .i64 0) := Below.keeps hb0 _ _ (by simp [go_sem])
  have HB : Below w3.heap.size w3 w4 := below_trans (by repeat (first | exact Below.refl _ _ | assumption | (refine Below.drew ?_) | (refine below_drewN' ?_ _) | (refine below_alloc' ?_ _) | (refine Below.setCell ?_ (by first | exact Nat.le_refl _ | (simp; done) | (simp; omega)) _))) hb0
  clear hb0
  replace a0 := Below.keeps HB _ _ a0
  replace a1 := Below.keeps HB _ _ a1
  replace a2 := Below.keeps HB _ _ a2
  replace a3 := Below.keeps HB _ _ a3
  replace k0 := Below.keeps HB _ _ k0
  replace k1 := Below.keeps HB _ _ k1
  replace k2 := Below.keeps HB _ _ k2
  replace k3 := Below.keeps HB _ _ k3
  replace al := Nat.lt_of_lt_of_le al HB.size
  replace kl := Nat.lt_of_lt_of_le kl HB.size
  replace HW := below_trans HW HB
  clear HB
  have nl : w3.heap.size < w4.heap.size := World.block_lt_of_cell? w4 _ n0
  replace al_1 : w.heap.size < w4.heap.size + 1 := by omega
  replace al_2 : w.heap.size < w4.heap.size + 1 + 1 := by omega
  replace al_3 : w.heap.size < w4.heap.size + 1 + 1 + 1 := by omega
  replace al_4 : w.heap.size < w4.heap.size + 1 + 1 + 1 + 1 := by omega
  replace kl_1 : w2.heap.size < w4.heap.size + 1 := by omega
  replace kl_2 : w2.heap.size < w4.heap.size + 1 + 1 := by omega
  replace kl_3 : w2.heap.size < w4.heap.size + 1 + 1 + 1 := by omega
  replace kl_4 : w2.heap.size < w4.heap.size + 1 + 1 + 1 + 1 := by omega
  have nl_1 : w3.heap.size < w4.heap.size + 1 := by omega
  have nl_2 : w3.heap.size < w4.heap.size + 1 + 1 := by omega
  have nl_3 : w3.heap.size < w4.heap.size + 1 + 1 + 1 := by omega
  have nl_4 : w3.heap.size < w4.heap.size + 1 + 1 + 1 + 1 := by omega
  go_wp2_with fail
  refine wp_loop_rounds 5 ?_
  rw [rounds_succ]
  go_wp2_with fail
  refine Calls.mono (tk'.out 0 _ (by omega) (by omega)) ?_
  rintro e w5 ⟨rfl, hb0⟩
  have s0 : w5.cell? ⟨w4.heap.size, 0, none⟩ = some (.int .i64 0) := Below.keeps hb0 _ _ (by simp [go_sem])
  have s1 : w5.cell? ⟨w4.heap.size, 1, none⟩ = some (.bool false) := Below.keeps hb0 _ _ (by simp [go_sem])
  have s2 : w5.cell? ⟨w4.heap.size, 2, none⟩ = some (.int .i64 0) := Below.keeps hb0 _ _ (by simp [go_sem])
  have s3 : w5.cell? ⟨w4.heap.size, 3, none⟩ = some (.int .i64 0) := Below.keeps hb0 _ _ (by simp [go_sem])
  have m0 : w5.cell? ⟨w4.heap.size + 1, 0, none⟩ = some (.int .i64 0) := Below.keeps hb0 _ _ (by simp [go_sem])
  have m1 : w5.cell? ⟨w4.heap.size + 1, 1, none⟩ = some (.bool false) := Below.keeps hb0 _ _ (by simp [go_sem])
  have m2 : w5.cell? ⟨w4.heap.size + 1, 2, none⟩ = some (.int .i64 0) := Below.keeps hb0 _ _ (by simp [go_sem])
  have m3 : w5.cell? ⟨w4.heap.size + 1, 3, none⟩ = some (.int .i64 0) := Below.keeps hb0 _ _ (by simp [go_sem])
  have mf : ∀ k, w5.frozen? ⟨w4.heap.size + 1, k, none⟩ = false := by intro k; rw [hb0.frozen (by first | (simp; done) | (simp; omega))]; simp [go_sem]
  have m_base : w.heap.size ≤ w4.heap.size + 1 := by have := HW.size; omega
  have al_m : ¬ w.heap.size = w4.heap.size + 1 := by omega
  have kl_m : ¬ w2.heap.size = w4.heap.size + 1 := by omega
  have nl_m : ¬ w3.heap.size = w4.heap.size + 1 := by omega
  have sl_m : ¬ w4.heap.size = w4.heap.size + 1 := by omega
  have HB : Below w4.heap.size w4 w5 := below_trans (by repeat (first | exact Below.refl _ _ | assumption | (refine Below.drew ?_) | (refine below_drewN' ?_ _) | (refine below_alloc' ?_ _) | (refine Below.setCell ?_ (by first | exact Nat.le_refl _ | (simp; done) | (simp; omega)) _))) hb0
  clear hb0
  replace a0 := Below.keeps HB _ _ a0
  replace a1 := Below.keeps HB _ _ a1
  replace a2 := Below.keeps HB _ _ a2
  replace a3 := Below.keeps HB _ _ a3
  replace k0 := Below.keeps HB _ _ k0
  replace k1 := Below.keeps HB _ _ k1
  replace k2 := Below.keeps HB _ _ k2
  replace k3 := Below.keeps HB _ _ k3
  replace n0 := Below.keeps HB _ _ n0
  replace n1 := Below.keeps HB _ _ n1
  replace n2 := Below.keeps HB _ _ n2
  replace n3 := Below.keeps HB _ _ n3
  replace al := Nat.lt_of_lt_of_le al HB.size
  replace kl := Nat.lt_of_lt_of_le kl HB.size
  replace nl := Nat.lt_of_lt_of_le nl HB.size
  replace HW := below_trans HW HB
  clear HB
  have sl : w4.heap.size < w5.heap.size := World.block_lt_of_cell? w5 _ s0
  have ml : w4.heap.size + 1 < w5.heap.size := World.block_lt_of_cell? w5 _ m0
  replace al_1 : w.heap.size < w5.heap.size + 1 := by omega
  replace al_2 : w.heap.size < w5.heap.size + 1 + 1 := by omega
  replace al_3 : w.heap.size < w5.heap.size + 1 + 1 + 1 := by omega
  replace al_4 : w.heap.size < w5.heap.size + 1 + 1 + 1 + 1 := by omega
  replace kl_1 : w2.heap.size < w5.heap.size + 1 := by omega
  replace kl_2 : w2.heap.size < w5.heap.size + 1 + 1 := by omega
  replace kl_3 : w2.heap.size < w5.heap.size + 1 + 1 + 1 := by omega
  replace kl_4 : w2.heap.size < w5.heap.size + 1 + 1 + 1 + 1 := by omega
  replace nl_1 : w3.heap.size < w5.heap.size + 1 := by omega
  replace nl_2 : w3.heap.size < w5.heap.size + 1 + 1 := by omega
  replace nl_3 : w3.heap.size < w5.heap.size + 1 + 1 + 1 := by omega
  replace nl_4 : w3.heap.size < w5.heap.size + 1 + 1 + 1 + 1 := by omega
  have sl_1 : w4.heap.size < w5.heap.size + 1 := by omega
  have sl_2 : w4.heap.size < w5.heap.size + 1 + 1 := by omega
  have sl_3 : w4.heap.size < w5.heap.size + 1 + 1 + 1 := by omega
  have sl_4 : w4.heap.size < w5.heap.size + 1 + 1 + 1 + 1 := by omega
  have ml_1 : w4.heap.size + 1 < w5.heap.size + 1 := by omega
  have ml_2 : w4.heap.size + 1 < w5.heap.size + 1 + 1 := by omega
  have ml_3 : w4.heap.size + 1 < w5.heap.size + 1 + 1 + 1 := by omega
  have ml_4 : w4.heap.size + 1 < w5.heap.size + 1 + 1 + 1 + 1 := by omega
  go_wp2_with fail
  rw [rounds_succ]
  go_wp2_with fail
  refine Calls.mono (tk'.out 1 _ (by omega) (by omega)) ?_
  rintro e w6 ⟨rfl, hb0⟩
  replace a0 : w6.cell? ⟨w.heap.size, 0, none⟩ = some (.int .i64 t) := Below.keeps hb0 _ _ (by simp [go_sem, a0, a1, a2, a3, k0, k1, k2, k3, n0, n1, n2, n3, s0, s1, s2, s3, m0, m1, m2, m3, mf, al_m, kl_m, nl_m, sl_m])
  replace a1 : w6.cell? ⟨w.heap.size, 1, none⟩ = some (.bool f) := Below.keeps hb0 _ _ (by simp [go_sem, a0, a1, a2, a3, k0, k1, k2, k3, n0, n1, n2, n3, s0, s1, s2, s3, m0, m1, m2, m3, mf, al_m, kl_m, nl_m, sl_m])
  replace a2 : w6.cell? ⟨w.heap.size, 2, none⟩ = some (.int .i64 x) := Below.keeps hb0 _ _ (by simp [go_sem, a0, a1, a2, a3, k0, k1, k2, k3, n0, n1, n2, n3, s0, s1, s2, s3, m0, m1, m2, m3, mf, al_m, kl_m, nl_m, sl_m])
  replace a3 : w6.cell? ⟨w.heap.size, 3, none⟩ = some (.int .i64 y) := Below.keeps hb0 _ _ (by simp [go_sem, a0, a1, a2, a3, k0, k1, k2, k3, n0, n1, n2, n3, s0, s1, s2, s3, m0, m1, m2, m3, mf, al_m, kl_m, nl_m, sl_m])
  replace k0 : w6.cell? ⟨w2.heap.size, 0, none⟩ = some (.int .i64 bt) := Below.keeps hb0 _ _ (by simp [go_sem, a0, a1, a2, a3, k0, k1, k2, k3, n0, n1, n2, n3, s0, s1, s2, s3, m0, m1, m2, m3, mf, al_m, kl_m, nl_m, sl_m])
  replace k1 : w6.cell? ⟨w2.heap.size, 1, none⟩ = some (.bool f) := Below.keeps hb0 _ _ (by simp [go_sem, a0, a1, a2, a3, k0, k1, k2, k3, n0, n1, n2, n3, s0, s1, s2, s3, m0, m1, m2, m3, mf, al_m, kl_m, nl_m, sl_m])
  replace k2 : w6.cell? ⟨w2.heap.size, 2, none⟩ = some (.int .i64 bx) := Below.keeps hb0 _ _ (by simp [go_sem, a0, a1, a2, a3, k0, k1, k2, k3, n0, n1, n2, n3, s0, s1, s2, s3, m0, m1, m2, m3, mf, al_m, kl_m, nl_m, sl_m])
  replace k3 : w6.cell? ⟨w2.heap.size, 3, none⟩ = some (.int .i64 bY) := Below.keeps hb0 _ _ (by simp [go_sem, a0, a1, a2, a3, k0, k1, k2, k3, n0, n1, n2, n3, s0, s1, s2, s3, m0, m1, m2, m3, mf, al_m, kl_m, nl_m, sl_m])
  replace n0 : w6.cell? ⟨w3.heap.size, 0, none⟩ = some (.int .i64 0) := Below.keeps hb0 _ _ (by simp [go_sem, a0, a1, a2, a3, k0, k1, k2, k3, n0, n1, n2, n3, s0, s1, s2, s3, m0, m1, m2, m3, mf, al_m, kl_m, nl_m, sl_m])
  replace n1 : w6.cell? ⟨w3.heap.size, 1, none⟩ = some (.bool false) := Below.keeps hb0 _ _ (by simp [go_sem, a0, a1, a2, a3, k0, k1, k2, k3, n0, n1, n2, n3, s0, s1, s2, s3, m0, m1, m2, m3, mf, al_m, kl_m, nl_m, sl_m])
  replace n2 : w6.cell? ⟨w3.heap.size, 2, none⟩ = some (.int .i64 0) := Below.keeps hb0 _ _ (by simp [go_sem, a0, a1, a2, a3, k0, k1, k2, k3, n0, n1, n2, n3, s0, s1, s2, s3, m0, m1, m2, m3, mf, al_m, kl_m, nl_m, sl_m])
  replace n3 : w6.cell? ⟨w3.heap.size, 3, none⟩ = some (.int .i64 0) := Below.keeps hb0 _ _ (by simp [go_sem, a0, a1, a2, a3, k0, k1, k2, k3, n0, n1, n2, n3, s0, s1, s2, s3, m0, m1, m2, m3, mf, al_m, kl_m, nl_m, sl_m])
  replace s0 : w6.cell? ⟨w4.heap.size, 0, none⟩ = some (.int .i64 0) := Below.keeps hb0 _ _ (by simp [go_sem, a0, a1, a2, a3, k0, k1, k2, k3, n0, n1, n2, n3, s0, s1, s2, s3, m0, m1, m2, m3, mf, al_m, kl_m, nl_m, sl_m])
  replace s1 : w6.cell? ⟨w4.heap.size, 1, none⟩ = some (.bool false) := Below.keeps hb0 _ _ (by simp [go_sem, a0, a1, a2, a3, k0, k1, k2, k3, n0, n1, n2, n3, s0, s1, s2, s3, m0, m1, m2, m3, mf, al_m, kl_m, nl_m, sl_m])
  replace s2 : w6.cell? ⟨w4.heap.size, 2, none⟩ = some (.int .i64 0) := Below.keeps hb0 _ _ (by simp [go_sem, a0, a1, a2, a3, k0, k1, k2, k3, n0, n1, n2, n3, s0, s1, s2, s3, m0, m1, m2, m3, mf, al_m, kl_m, nl_m, sl_m])
  replace s3 : w6.cell? ⟨w4.heap.size, 3, none⟩ = some (.int .i64 0) := Below.keeps hb0 _ _ (by simp [go_sem, a0, a1, a2, a3, k0, k1, k2, k3, n0, n1, n2, n3, s0, s1, s2, s3, m0, m1, m2, m3, mf, al_m, kl_m, nl_m, sl_m])
  have m0' : w6.cell? ⟨w4.heap.size + 1, 0, none⟩ = some (.int .i64 1) := Below.keeps hb0 _ _ (by simp [go_sem, a0, a1, a2, a3, k0, k1, k2, k3, n0, n1, n2, n3, s0, s1, s2, s3, m0, m1, m2, m3, mf, al_m, kl_m, nl_m, sl_m])
  have m1' : w6.cell? ⟨w4.heap.size + 1, 1, none⟩ = some (.bool false) := Below.keeps hb0 _ _ (by simp [go_sem, a0, a1, a2, a3, k0, k1, k2, k3, n0, n1, n2, n3, s0, s1, s2, s3, m0, m1, m2, m3, mf, al_m, kl_m, nl_m, sl_m])
  have m2' : w6.cell? ⟨w4.heap.size + 1, 2, none⟩ = some (.int .i64 0) := Below.keeps hb0 _ _ (by simp [go_sem, a0, a1, a2, a3, k0, k1, k2, k3, n0, n1, n2, n3, s0, s1, s2, s3, m0, m1, m2, m3, mf, al_m, kl_m, nl_m, sl_m])
  have m3' : w6.cell? ⟨w4.heap.size + 1, 3, none⟩ = some (.int .i64 0) := Below.keeps hb0 _ _ (by simp [go_sem, a0, a1, a2, a3, k0, k1, k2, k3, n0, n1, n2, n3, s0, s1, s2, s3, m0, m1, m2, m3, mf, al_m, kl_m, nl_m, sl_m])
  replace m0 := m0'
  clear m0'
  replace m1 := m1'
  clear m1'
  replace m2 := m2'
  clear m2'
  replace m3 := m3'
  clear m3'
  replace mf : ∀ k, w6.frozen? ⟨w4.heap.size + 1, k, none⟩ = false := by intro k; rw [hb0.frozen (by first | (simp; done) | (simp; omega))]; simp [go_sem, mf]
  have hsz : w5.heap.size ≤ w6.heap.size := Nat.le_trans (by simp) hb0.size
  replace al := Nat.lt_of_lt_of_le al hsz
  replace kl := Nat.lt_of_lt_of_le kl hsz
  replace nl := Nat.lt_of_lt_of_le nl hsz
  replace sl := Nat.lt_of_lt_of_le sl hsz
  replace ml := Nat.lt_of_lt_of_le ml hsz
  replace HW : Below w.heap.size w w6 := below_trans (by repeat (first | exact HW | (refine Below.drew ?_) | (refine below_drewN' ?_ _) | (refine below_alloc' ?_ _) | (refine Below.setCell ?_ (by first | exact Nat.le_refl _ | (simp; done) | (simp; omega) | omega) _))) hb0
  clear hb0 hsz
  replace al_1 : w.heap.size < w6.heap.size + 1 := by omega
  replace al_2 : w.heap.size < w6.heap.size + 1 + 1 := by omega
  replace al_3 : w.heap.size < w6.heap.size + 1 + 1 + 1 := by omega
  replace al_4 : w.heap.size < w6.heap.size + 1 + 1 + 1 + 1 := by omega
  replace kl_1 : w2.heap.size < w6.heap.size + 1 := by omega
  replace kl_2 : w2.heap.size < w6.heap.size + 1 + 1 := by omega
  replace kl_3 : w2.heap.size < w6.heap.size + 1 + 1 + 1 := by omega
  replace kl_4 : w2.heap.size < w6.heap.size + 1 + 1 + 1 + 1 := by omega
  replace nl_1 : w3.heap.size < w6.heap.size + 1 := by omega
  replace nl_2 : w3.heap.size < w6.heap.size + 1 + 1 := by omega
  replace nl_3 : w3.heap.size < w6.heap.size + 1 + 1 + 1 := by omega
  replace nl_4 : w3.heap.size < w6.heap.size + 1 + 1 + 1 + 1 := by omega
  replace sl_1 : w4.heap.size < w6.heap.size + 1 := by omega
  replace sl_2 : w4.heap.size < w6.heap.size + 1 + 1 := by omega
  replace sl_3 : w4.heap.size < w6.heap.size + 1 + 1 + 1 := by omega
  replace sl_4 : w4.heap.size < w6.heap.size + 1 + 1 + 1 + 1 := by omega
  replace ml_1 : w4.heap.size + 1 < w6.heap.size + 1 := by omega
  replace ml_2 : w4.heap.size + 1 < w6.heap.size + 1 + 1 := by omega
  replace ml_3 : w4.heap.size + 1 < w6.heap.size + 1 + 1 + 1 := by omega
  replace ml_4 : w4.heap.size + 1 < w6.heap.size + 1 + 1 + 1 + 1 := by omega
  go_wp2_with fail
  rw [rounds_succ]
  go_wp2_with fail
  refine Calls.mono (tk'.out 2 _ (by omega) (by omega)) ?_
  rintro e w7 ⟨rfl, hb0⟩
  replace a0 : w7.cell? ⟨w.heap.size, 0, none⟩ = some (.int .i64 t) := Below.keeps hb0 _ _ (by simp [go_sem, a0, a1, a2, a3, k0, k1, k2, k3, n0, n1, n2, n3, s0, s1, s2, s3, m0, m1, m2, m3, mf, al_m, kl_m, nl_m, sl_m])
  replace a1 : w7.cell? ⟨w.heap.size, 1, none⟩ = some (.bool f) := Below.keeps hb0 _ _ (by simp [go_sem, a0, a1, a2, a3, k0, k1, k2, k3, n0, n1, n2, n3, s0, s1, s2, s3, m0, m1, m2, m3, mf, al_m, kl_m, nl_m, sl_m])
  replace a2 : w7.cell? ⟨w.heap.size, 2, none⟩ = some (.int .i64 x) := Below.keeps hb0 _ _ (by simp [go_sem, a0, a1, a2, a3, k0, k1, k2, k3, n0, n1, n2, n3, s0, s1, s2, s3, m0, m1, m2, m3, mf, al_m, kl_m, nl_m, sl_m])
  replace a3 : w7.cell? ⟨w.heap.size, 3, none⟩ = some (.int .i64 y) := Below.keeps hb0 _ _ (by simp [go_sem, a0, a1, a2, a3, k0, k1, k2, k3, n0, n1, n2, n3, s0, s1, s2, s3, m0, m1, m2, m3, mf, al_m, kl_m, nl_m, sl_m])
  replace k0 : w7.cell? ⟨w2.heap.size, 0, none⟩ = some (.int .i64 bt) := Below.keeps hb0 _ _ (by simp [go_sem, a0, a1, a2, a3, k0, k1, k2, k3, n0, n1, n2, n3, s0, s1, s2, s3, m0, m1, m2, m3, mf, al_m, kl_m, nl_m, sl_m])
  replace k1 : w7.cell? ⟨w2.heap.size, 1, none⟩ = some (.bool f) := Below.keeps hb0 _ _ (by simp [go_sem, a0, a1, a2, a3, k0, k1, k2, k3, n0, n1, n2, n3, s0, s1, s2, s3, m0, m1, m2, m3, mf, al_m, kl_m, nl_m, sl_m])
  replace k2 : w7.cell? ⟨w2.heap.size, 2, none⟩ = some (.int .i64 bx) := Below.keeps hb0 _ _ (by simp [go_sem, a0, a1, a2, a3, k0, k1, k2, k3, n0, n1, n2, n3, s0, s1, s2, s3, m0, m1, m2, m3, mf, al_m, kl_m, nl_m, sl_m])
  replace k3 : w7.cell? ⟨w2.heap.size, 3, none⟩ = some (.int .i64 bY) := Below.keeps hb0 _ _ (by simp [go_sem, a0, a1, a2, a3, k0, k1, k2, k3, n0, n1, n2, n3, s0, s1, s2, s3, m0, m1, m2, m3, mf, al_m, kl_m, nl_m, sl_m])
  replace n0 : w7.cell? ⟨w3.heap.size, 0, none⟩ = some (.int .i64 0) := Below.keeps hb0 _ _ (by simp [go_sem, a0, a1, a2, a3, k0, k1, k2, k3, n0, n1, n2, n3, s0, s1, s2, s3, m0, m1, m2, m3, mf, al_m, kl_m, nl_m, sl_m])
  replace n1 : w7.cell? ⟨w3.heap.size, 1, none⟩ = some (.bool false) := Below.keeps hb0 _ _ (by simp [go_sem, a0, a1, a2, a3, k0, k1, k2, k3, n0, n1, n2, n3, s0, s1, s2, s3, m0, m1, m2, m3, mf, al_m, kl_m, nl_m, sl_m])
  replace n2 : w7.cell? ⟨w3.heap.size, 2, none⟩ = some (.int .i64 0) := Below.keeps hb0 _ _ (by simp [go_sem, a0, a1, a2, a3, k0, k1, k2, k3, n0, n1, n2, n3, s0, s1, s2, s3, m0, m1, m2, m3, mf, al_m, kl_m, nl_m, sl_m])
  replace n3 : w7.cell? ⟨w3.heap.size, 3, none⟩ = some (.int .i64 0) := Below.keeps hb0 _ _ (by simp [go_sem, a0, a1, a2, a3, k0, k1, k2, k3, n0, n1, n2, n3, s0, s1, s2, s3, m0, m1, m2, m3, mf, al_m, kl_m, nl_m, sl_m])
  replace s0 : w7.cell? ⟨w4.heap.size, 0, none⟩ = some (.int .i64 0) := Below.keeps hb0 _ _ (by simp [go_sem, a0, a1, a2, a3, k0, k1, k2, k3, n0, n1, n2, n3, s0, s1, s2, s3, m0, m1, m2, m3, mf, al_m, kl_m, nl_m, sl_m])
  replace s1 : w7.cell? ⟨w4.heap.size, 1, none⟩ = some (.bool false) := Below.keeps hb0 _ _ (by simp [go_sem, a0, a1, a2, a3, k0, k1, k2, k3, n0, n1, n2, n3, s0, s1, s2, s3, m0, m1, m2, m3, mf, al_m, kl_m, nl_m, sl_m])
  replace s2 : w7.cell? ⟨w4.heap.size, 2, none⟩ = some (.int .i64 0) := Below.keeps hb0 _ _ (by simp [go_sem, a0, a1, a2, a3, k0, k1, k2, k3, n0, n1, n2, n3, s0, s1, s2, s3, m0, m1, m2, m3, mf, al_m, kl_m, nl_m, sl_m])
  replace s3 : w7.cell? ⟨w4.heap.size, 3, none⟩ = some (.int .i64 0) := Below.keeps hb0 _ _ (by simp [go_sem, a0, a1, a2, a3, k0, k1, k2, k3, n0, n1, n2, n3, s0, s1, s2, s3, m0, m1, m2, m3, mf, al_m, kl_m, nl_m, sl_m])
  have m0' : w7.cell? ⟨w4.heap.size + 1, 0, none⟩ = some (.int .i64 2) := Below.keeps hb0 _ _ (by simp [go_sem, a0, a1, a2, a3, k0, k1, k2, k3, n0, n1, n2, n3, s0, s1, s2, s3, m0, m1, m2, m3, mf, al_m, kl_m, nl_m, sl_m])
  have m1' : w7.cell? ⟨w4.heap.size + 1, 1, none⟩ = some (.bool false) := Below.keeps hb0 _ _ (by simp [go_sem, a0, a1, a2, a3, k0, k1, k2, k3, n0, n1, n2, n3, s0, s1, s2, s3, m0, m1, m2, m3, mf, al_m, kl_m, nl_m, sl_m])
  have m2' : w7.cell? ⟨w4.heap.size + 1, 2, none⟩ = some (.int .i64 0) := Below.keeps hb0 _ _ (by simp [go_sem, a0, a1, a2, a3, k0, k1, k2, k3, n0, n1, n2, n3, s0, s1, s2, s3, m0, m1, m2, m3, mf, al_m, kl_m, nl_m, sl_m])
  have m3' : w7.cell? ⟨w4.heap.size + 1, 3, none⟩ = some (.int .i64 0) := Below.keeps hb0 _ _ (by simp [go_sem, a0, a1, a2, a3, k0, k1, k2, k3, n0, n1, n2, n3, s0, s1, s2, s3, m0, m1, m2, m3, mf, al_m, kl_m, nl_m, sl_m])
  replace m0 := m0'
  clear m0'
  replace m1 := m1'
  clear m1'
  replace m2 := m2'
  clear m2'
  replace m3 := m3'
  clear m3'
  replace mf : ∀ k, w7.frozen? ⟨w4.heap.size + 1, k, none⟩ = false := by intro k; rw [hb0.frozen (by first | (simp; done) | (simp; omega))]; simp [go_sem, mf]
  have hsz : w6.heap.size ≤ w7.heap.size := Nat.le_trans (by simp) hb0.size
  replace al := Nat.lt_of_lt_of_le al hsz
  replace kl := Nat.lt_of_lt_of_le kl hsz
  replace nl := Nat.lt_of_lt_of_le nl hsz
  replace sl := Nat.lt_of_lt_of_le sl hsz
  replace ml := Nat.lt_of_lt_of_le ml hsz
  replace HW : Below w.heap.size w w7 := below_trans (by repeat (first | exact HW | (refine Below.drew ?_) | (refine below_drewN' ?_ _) | (refine below_alloc' ?_ _) | (refine Below.setCell ?_ (by first | exact Nat.le_refl _ | (simp; done) | (simp; omega) | omega) _))) hb0
  clear hb0 hsz
  replace al_1 : w.heap.size < w7.heap.size + 1 := by omega
  replace al_2 : w.heap.size < w7.heap.size + 1 + 1 := by omega
  replace al_3 : w.heap.size < w7.heap.size + 1 + 1 + 1 := by omega
  replace al_4 : w.heap.size < w7.heap.size + 1 + 1 + 1 + 1 := by omega
  replace kl_1 : w2.heap.size < w7.heap.size + 1 := by omega
  replace kl_2 : w2.heap.size < w7.heap.size + 1 + 1 := by omega
  replace kl_3 : w2.heap.size < w7.heap.size + 1 + 1 + 1 := by omega
  replace kl_4 : w2.heap.size < w7.heap.size + 1 + 1 + 1 + 1 := by omega
  replace nl_1 : w3.heap.size < w7.heap.size + 1 := by omega
  replace nl_2 : w3.heap.size < w7.heap.size + 1 + 1 := by omega
  replace nl_3 : w3.heap.size < w7.heap.size + 1 + 1 + 1 := by omega
  replace nl_4 : w3.heap.size < w7.heap.size + 1 + 1 + 1 + 1 := by omega
  replace sl_1 : w4.heap.size < w7.heap.size + 1 := by omega
  replace sl_2 : w4.heap.size < w7.heap.size + 1 + 1 := by omega
  replace sl_3 : w4.heap.size < w7.heap.size + 1 + 1 + 1 := by omega
  replace sl_4 : w4.heap.size < w7.heap.size + 1 + 1 + 1 + 1 := by omega
  replace ml_1 : w4.heap.size + 1 < w7.heap.size + 1 := by omega
  replace ml_2 : w4.heap.size + 1 < w7.heap.size + 1 + 1 := by omega
  replace ml_3 : w4.heap.size + 1 < w7.heap.size + 1 + 1 + 1 := by omega
  replace ml_4 : w4.heap.size + 1 < w7.heap.size + 1 + 1 + 1 + 1 := by omega
  go_wp2_with fail
  rw [rounds_succ]
  go_wp2_with fail
  refine Calls.mono (tk'.out 3 _ (by omega) (by omega)) ?_
  rintro e w8 ⟨rfl, hb0⟩
  replace a0 : w8.cell? ⟨w.heap.size, 0, none⟩ = some (.int .i64 t) := Below.keeps hb0 _ _ (by simp [go_sem, a0, a1, a2, a3, k0, k1, k2, k3, n0, n1, n2, n3, s0, s1, s2, s3, m0, m1, m2, m3, mf, al_m, kl_m, nl_m, sl_m])
  replace a1 : w8.cell? ⟨w.heap.size, 1, none⟩ = some (.bool f) := Below.keeps hb0 _ _ (by simp [go_sem, a0, a1, a2, a3, k0, k1, k2, k3, n0, n1, n2, n3, s0, s1, s2, s3, m0, m1, m2, m3, mf, al_m, kl_m, nl_m, sl_m])
  replace a2 : w8.cell? ⟨w.heap.size, 2, none⟩ = some (.int .i64 x) := Below.keeps hb0 _ _ (by simp [go_sem, a0, a1, a2, a3, k0, k1, k2, k3, n0, n1, n2, n3, s0, s1, s2, s3, m0, m1, m2, m3, mf, al_m, kl_m, nl_m, sl_m])
  replace a3 : w8.cell? ⟨w.heap.size, 3, none⟩ = some (.int .i64 y) := Below.keeps hb0 _ _ (by simp [go_sem, a0, a1, a2, a3, k0, k1, k2, k3, n0, n1, n2, n3, s0, s1, s2, s3, m0, m1, m2, m3, mf, al_m, kl_m, nl_m, sl_m])
  replace k0 : w8.cell? ⟨w2.heap.size, 0, none⟩ = some (.int .i64 bt) := Below.keeps hb0 _ _ (by simp [go_sem, a0, a1, a2, a3, k0, k1, k2, k3, n0, n1, n2, n3, s0, s1, s2, s3, m0, m1, m2, m3, mf, al_m, kl_m, nl_m, sl_m])
  replace k1 : w8.cell? ⟨w2.heap.size, 1, none⟩ = some (.bool f) := Below.keeps hb0 _ _ (by simp [go_sem, a0, a1, a2, a3, k0, k1, k2, k3, n0, n1, n2, n3, s0, s1, s2, s3, m0, m1, m2, m3, mf, al_m, kl_m, nl_m, sl_m])
  replace k2 : w8.cell? ⟨w2.heap.size, 2, none⟩ = some (.int .i64 bx) := Below.keeps hb0 _ _ (by simp [go_sem, a0, a1, a2, a3, k0, k1, k2, k3, n0, n1, n2, n3, s0, s1, s2, s3, m0, m1, m2, m3, mf, al_m, kl_m, nl_m, sl_m])
  replace k3 : w8.cell? ⟨w2.heap.size, 3, none⟩ = some (.int .i64 bY) := Below.keeps hb0 _ _ (by simp [go_sem, a0, a1, a2, a3, k0, k1, k2, k3, n0, n1, n2, n3, s0, s1, s2, s3, m0, m1, m2, m3, mf, al_m, kl_m, nl_m, sl_m])
  replace n0 : w8.cell? ⟨w3.heap.size, 0, none⟩ = some (.int .i64 0) := Below.keeps hb0 _ _ (by simp [go_sem, a0, a1, a2, a3, k0, k1, k2, k3, n0, n1, n2, n3, s0, s1, s2, s3, m0, m1, m2, m3, mf, al_m, kl_m, nl_m, sl_m])
  replace n1 : w8.cell? ⟨w3.heap.size, 1, none⟩ = some (.bool false) := Below.keeps hb0 _ _ (by simp [go_sem, a0, a1, a2, a3, k0, k1, k2, k3, n0, n1, n2, n3, s0, s1, s2, s3, m0, m1, m2, m3, mf, al_m, kl_m, nl_m, sl_m])
  replace n2 : w8.cell? ⟨w3.heap.size, 2, none⟩ = some (.int .i64 0) := Below.keeps hb0 _ _ (by simp [go_sem, a0, a1, a2, a3, k0, k1, k2, k3, n0, n1, n2, n3, s0, s1, s2, s3, m0, m1, m2, m3, mf, al_m, kl_m, nl_m, sl_m])
  replace n3 : w8.cell? ⟨w3.heap.size, 3, none⟩ = some (.int .i64 0) := Below.keeps hb0 _ _ (by simp [go_sem, a0, a1, a2, a3, k0, k1, k2, k3, n0, n1, n2, n3, s0, s1, s2, s3, m0, m1, m2, m3, mf, al_m, kl_m, nl_m, sl_m])
  replace s0 : w8.cell? ⟨w4.heap.size, 0, none⟩ = some (.int .i64 0) := Below.keeps hb0 _ _ (by simp [go_sem, a0, a1, a2, a3, k0, k1, k2, k3, n0, n1, n2, n3, s0, s1, s2, s3, m0, m1, m2, m3, mf, al_m, kl_m, nl_m, sl_m])
  replace s1 : w8.cell? ⟨w4.heap.size, 1, none⟩ = some (.bool false) := Below.keeps hb0 _ _ (by simp [go_sem, a0, a1, a2, a3, k0, k1, k2, k3, n0, n1, n2, n3, s0, s1, s2, s3, m0, m1, m2, m3, mf, al_m, kl_m, nl_m, sl_m])
  replace s2 : w8.cell? ⟨w4.heap.size, 2, none⟩ = some (.int .i64 0) := Below.keeps hb0 _ _ (by simp [go_sem, a0, a1, a2, a3, k0, k1, k2, k3, n0, n1, n2, n3, s0, s1, s2, s3, m0, m1, m2, m3, mf, al_m, kl_m, nl_m, sl_m])
  replace s3 : w8.cell? ⟨w4.heap.size, 3, none⟩ = some (.int .i64 0) := Below.keeps hb0 _ _ (by simp [go_sem, a0, a1, a2, a3, k0, k1, k2, k3, n0, n1, n2, n3, s0, s1, s2, s3, m0, m1, m2, m3, mf, al_m, kl_m, nl_m, sl_m])
  have m0' : w8.cell? ⟨w4.heap.size + 1, 0, none⟩ = some (.int .i64 3) := Below.keeps hb0 _ _ (by simp [go_sem, a0, a1, a2, a3, k0, k1, k2, k3, n0, n1, n2, n3, s0, s1, s2, s3, m0, m1, m2, m3, mf, al_m, kl_m, nl_m, sl_m])
  have m1' : w8.cell? ⟨w4.heap.size + 1, 1, none⟩ = some (.bool false) := Below.keeps hb0 _ _ (by simp [go_sem, a0, a1, a2, a3, k0, k1, k2, k3, n0, n1, n2, n3, s0, s1, s2, s3, m0, m1, m2, m3, mf, al_m, kl_m, nl_m, sl_m])
  have m2' : w8.cell? ⟨w4.heap.size + 1, 2, none⟩ = some (.int .i64 0) := Below.keeps hb0 _ _ (by simp [go_sem, a0, a1, a2, a3, k0, k1, k2, k3, n0, n1, n2, n3, s0, s1, s2, s3, m0, m1, m2, m3, mf, al_m, kl_m, nl_m, sl_m])
  have m3' : w8.cell? ⟨w4.heap.size + 1, 3, none⟩ = some (.int .i64 0) := Below.keeps hb0 _ _ (by simp [go_sem, a0, a1, a2, a3, k0, k1, k2, k3, n0, n1, n2, n3, s0, s1, s2, s3, m0, m1, m2, m3, mf, al_m, kl_m, nl_m, sl_m])
  replace m0 := m0'
  clear m0'
  replace m1 := m1'
  clear m1'
  replace m2 := m2'
  clear m2'
  replace m3 := m3'
  clear m3'
  replace mf : ∀ k, w8.frozen? ⟨w4.heap.size + 1, k, none⟩ = false := by intro k; rw [hb0.frozen (by first | (simp; done) | (simp; omega))]; simp [go_sem, mf]
  have hsz : w7.heap.size ≤ w8.heap.size := Nat.le_trans (by simp) hb0.size
  replace al := Nat.lt_of_lt_of_le al hsz
  replace kl := Nat.lt_of_lt_of_le kl hsz
  replace nl := Nat.lt_of_lt_of_le nl hsz
  replace sl := Nat.lt_of_lt_of_le sl hsz
  replace ml := Nat.lt_of_lt_of_le ml hsz
  replace HW : Below w.heap.size w w8 := below_trans (by repeat (first | exact HW | (refine Below.drew ?_) | (refine below_drewN' ?_ _) | (refine below_alloc' ?_ _) | (refine Below.setCell ?_ (by first | exact Nat.le_refl _ | (simp; done) | (simp; omega) | omega) _))) hb0
  clear hb0 hsz
  replace al_1 : w.heap.size < w8.heap.size + 1 := by omega
  replace al_2 : w.heap.size < w8.heap.size + 1 + 1 := by omega
  replace al_3 : w.heap.size < w8.heap.size + 1 + 1 + 1 := by omega
  replace al_4 : w.heap.size < w8.heap.size + 1 + 1 + 1 + 1 := by omega
  replace kl_1 : w2.heap.size < w8.heap.size + 1 := by omega
  replace kl_2 : w2.heap.size < w8.heap.size + 1 + 1 := by omega
  replace kl_3 : w2.heap.size < w8.heap.size + 1 + 1 + 1 := by omega
  replace kl_4 : w2.heap.size < w8.heap.size + 1 + 1 + 1 + 1 := by omega
  replace nl_1 : w3.heap.size < w8.heap.size + 1 := by omega
  replace nl_2 : w3.heap.size < w8.heap.size + 1 + 1 := by omega
  replace nl_3 : w3.heap.size < w8.heap.size + 1 + 1 + 1 := by omega
  replace nl_4 : w3.heap.size < w8.heap.size + 1 + 1 + 1 + 1 := by omega
  replace sl_1 : w4.heap.size < w8.heap.size + 1 := by omega
  replace sl_2 : w4.heap.size < w8.heap.size + 1 + 1 := by omega
  replace sl_3 : w4.heap.size < w8.heap.size + 1 + 1 + 1 := by omega
  replace sl_4 : w4.heap.size < w8.heap.size + 1 + 1 + 1 + 1 := by omega
  replace ml_1 : w4.heap.size + 1 < w8.heap.size + 1 := by omega
  replace ml_2 : w4.heap.size + 1 < w8.heap.size + 1 + 1 := by omega
  replace ml_3 : w4.heap.size + 1 < w8.heap.size + 1 + 1 + 1 := by omega
  replace ml_4 : w4.heap.size + 1 < w8.heap.size + 1 + 1 + 1 + 1 := by omega
  go_wp2_with fail
  rw [rounds_succ]
  go_wp2_with fail
  refine Calls.mono (t2'.out _) ?_
  rintro e w9 ⟨rfl, hb0⟩
  replace a0 : w9.cell? ⟨w.heap.size, 0, none⟩ = some (.int .i64 t) := Below.keeps hb0 _ _ (by simp [go_sem, a0, a1, a2, a3, k0, k1, k2, k3, n0, n1, n2, n3, s0, s1, s2, s3, m0, m1, m2, m3, mf, al_m, kl_m, nl_m, sl_m])
  replace a1 : w9.cell? ⟨w.heap.size, 1, none⟩ = some (.bool f) := Below.keeps hb0 _ _ (by simp [go_sem, a0, a1, a2, a3, k0, k1, k2, k3, n0, n1, n2, n3, s0, s1, s2, s3, m0, m1, m2, m3, mf, al_m, kl_m, nl_m, sl_m])
  replace a2 : w9.cell? ⟨w.heap.size, 2, none⟩ = some (.int .i64 x) := Below.keeps hb0 _ _ (by simp [go_sem, a0, a1, a2, a3, k0, k1, k2, k3, n0, n1, n2, n3, s0, s1, s2, s3, m0, m1, m2, m3, mf, al_m, kl_m, nl_m, sl_m])
  replace a3 : w9.cell? ⟨w.heap.size, 3, none⟩ = some (.int .i64 y) := Below.keeps hb0 _ _ (by simp [go_sem, a0, a1, a2, a3, k0, k1, k2, k3, n0, n1, n2, n3, s0, s1, s2, s3, m0, m1, m2, m3, mf, al_m, kl_m, nl_m, sl_m])
  replace k0 : w9.cell? ⟨w2.heap.size, 0, none⟩ = some (.int .i64 bt) := Below.keeps hb0 _ _ (by simp [go_sem, a0, a1, a2, a3, k0, k1, k2, k3, n0, n1, n2, n3, s0, s1, s2, s3, m0, m1, m2, m3, mf, al_m, kl_m, nl_m, sl_m])
  replace k1 : w9.cell? ⟨w2.heap.size, 1, none⟩ = some (.bool f) := Below.keeps hb0 _ _ (by simp [go_sem, a0, a1, a2, a3, k0, k1, k2, k3, n0, n1, n2, n3, s0, s1, s2, s3, m0, m1, m2, m3, mf, al_m, kl_m, nl_m, sl_m])
  replace k2 : w9.cell? ⟨w2.heap.size, 2, none⟩ = some (.int .i64 bx) := Below.keeps hb0 _ _ (by simp [go_sem, a0, a1, a2, a3, k0, k1, k2, k3, n0, n1, n2, n3, s0, s1, s2, s3, m0, m1, m2, m3, mf, al_m, kl_m, nl_m, sl_m])
  replace k3 : w9.cell? ⟨w2.heap.size, 3, none⟩ = some (.int .i64 bY) := Below.keeps hb0 _ _ (by simp [go_sem, a0, a1, a2, a3, k0, k1, k2, k3, n0, n1, n2, n3, s0, s1, s2, s3, m0, m1, m2, m3, mf, al_m, kl_m, nl_m, sl_m])
  replace n0 : w9.cell? ⟨w3.heap.size, 0, none⟩ = some (.int .i64 0) := Below.keeps hb0 _ _ (by simp [go_sem, a0, a1, a2, a3, k0, k1, k2, k3, n0, n1, n2, n3, s0, s1, s2, s3, m0, m1, m2, m3, mf, al_m, kl_m, nl_m, sl_m])
  replace n1 : w9.cell? ⟨w3.heap.size, 1, none⟩ = some (.bool false) := Below.keeps hb0 _ _ (by simp [go_sem, a0, a1, a2, a3, k0, k1, k2, k3, n0, n1, n2, n3, s0, s1, s2, s3, m0, m1, m2, m3, mf, al_m, kl_m, nl_m, sl_m])
  replace n2 : w9.cell? ⟨w3.heap.size, 2, none⟩ = some (.int .i64 0) := Below.keeps hb0 _ _ (by simp [go_sem, a0, a1, a2, a3, k0, k1, k2, k3, n0, n1, n2, n3, s0, s1, s2, s3, m0, m1, m2, m3, mf, al_m, kl_m, nl_m, sl_m])
  replace n3 : w9.cell? ⟨w3.heap.size, 3, none⟩ = some (.int .i64 0) := Below.keeps hb0 _ _ (by simp [go_sem, a0, a1, a2, a3, k0, k1, k2, k3, n0, n1, n2, n3, s0, s1, s2, s3, m0, m1, m2, m3, mf, al_m, kl_m, nl_m, sl_m])
  replace s0 : w9.cell? ⟨w4.heap.size, 0, none⟩ = some (.int .i64 0) := Below.keeps hb0 _ _ (by simp [go_sem, a0, a1, a2, a3, k0, k1, k2, k3, n0, n1, n2, n3, s0, s1, s2, s3, m0, m1, m2, m3, mf, al_m, kl_m, nl_m, sl_m])
  replace s1 : w9.cell? ⟨w4.heap.size, 1, none⟩ = some (.bool false) := Below.keeps hb0 _ _ (by simp [go_sem, a0, a1, a2, a3, k0, k1, k2, k3, n0, n1, n2, n3, s0, s1, s2, s3, m0, m1, m2, m3, mf, al_m, kl_m, nl_m, sl_m])
  replace s2 : w9.cell? ⟨w4.heap.size, 2, none⟩ = some (.int .i64 0) := Below.keeps hb0 _ _ (by simp [go_sem, a0, a1, a2, a3, k0, k1, k2, k3, n0, n1, n2, n3, s0, s1, s2, s3, m0, m1, m2, m3, mf, al_m, kl_m, nl_m, sl_m])
  replace s3 : w9.cell? ⟨w4.heap.size, 3, none⟩ = some (.int .i64 0) := Below.keeps hb0 _ _ (by simp [go_sem, a0, a1, a2, a3, k0, k1, k2, k3, n0, n1, n2, n3, s0, s1, s2, s3, m0, m1, m2, m3, mf, al_m, kl_m, nl_m, sl_m])
  have m0' : w9.cell? ⟨w4.heap.size + 1, 0, none⟩ = some (.int .i64 0) := Below.keeps hb0 _ _ (by simp [go_sem, a0, a1, a2, a3, k0, k1, k2, k3, n0, n1, n2, n3, s0, s1, s2, s3, m0, m1, m2, m3, mf, al_m, kl_m, nl_m, sl_m])
  have m1' : w9.cell? ⟨w4.heap.size + 1, 1, none⟩ = some (.bool false) := Below.keeps hb0 _ _ (by simp [go_sem, a0, a1, a2, a3, k0, k1, k2, k3, n0, n1, n2, n3, s0, s1, s2, s3, m0, m1, m2, m3, mf, al_m, kl_m, nl_m, sl_m])
  have m2' : w9.cell? ⟨w4.heap.size + 1, 2, none⟩ = some (.int .i64 0) := Below.keeps hb0 _ _ (by simp [go_sem, a0, a1, a2, a3, k0, k1, k2, k3, n0, n1, n2, n3, s0, s1, s2, s3, m0, m1, m2, m3, mf, al_m, kl_m, nl_m, sl_m])
  have m3' : w9.cell? ⟨w4.heap.size + 1, 3, none⟩ = some (.int .i64 0) := Below.keeps hb0 _ _ (by simp [go_sem, a0, a1, a2, a3, k0, k1, k2, k3, n0, n1, n2, n3, s0, s1, s2, s3, m0, m1, m2, m3, mf, al_m, kl_m, nl_m, sl_m])
  replace m0 := m0'
  clear m0'
  replace m1 := m1'
  clear m1'
  replace m2 := m2'
  clear m2'
  replace m3 := m3'
  clear m3'
  replace mf : ∀ k, w9.frozen? ⟨w4.heap.size + 1, k, none⟩ = false := by intro k; rw [hb0.frozen (by first | (simp; done) | (simp; omega))]; simp [go_sem, mf]
  have hsz : w8.heap.size ≤ w9.heap.size := Nat.le_trans (by simp) hb0.size
  replace al := Nat.lt_of_lt_of_le al hsz
  replace kl := Nat.lt_of_lt_of_le kl hsz
  replace nl := Nat.lt_of_lt_of_le nl hsz
  replace sl := Nat.lt_of_lt_of_le sl hsz
  replace ml := Nat.lt_of_lt_of_le ml hsz
  replace HW : Below w.heap.size w w9 := below_trans (by repeat (first | exact HW | (refine Below.drew ?_) | (refine below_drewN' ?_ _) | (refine below_alloc' ?_ _) | (refine Below.setCell ?_ (by first | exact Nat.le_refl _ | (simp; done) | (simp; omega) | omega) _))) hb0
  clear hb0 hsz
  replace al_1 : w.heap.size < w9.heap.size + 1 := by omega
  replace al_2 : w.heap.size < w9.heap.size + 1 + 1 := by omega
  replace al_3 : w.heap.size < w9.heap.size + 1 + 1 + 1 := by omega
  replace al_4 : w.heap.size < w9.heap.size + 1 + 1 + 1 + 1 := by omega
  replace kl_1 : w2.heap.size < w9.heap.size + 1 := by omega
  replace kl_2 : w2.heap.size < w9.heap.size + 1 + 1 := by omega
  replace kl_3 : w2.heap.size < w9.heap.size + 1 + 1 + 1 := by omega
  replace kl_4 : w2.heap.size < w9.heap.size + 1 + 1 + 1 + 1 := by omega
  replace nl_1 : w3.heap.size < w9.heap.size + 1 := by omega
  replace nl_2 : w3.heap.size < w9.heap.size + 1 + 1 := by omega
  replace nl_3 : w3.heap.size < w9.heap.size + 1 + 1 + 1 := by omega
  replace nl_4 : w3.heap.size < w9.heap.size + 1 + 1 + 1 + 1 := by omega
  replace sl_1 : w4.heap.size < w9.heap.size + 1 := by omega
  replace sl_2 : w4.heap.size < w9.heap.size + 1 + 1 := by omega
  replace sl_3 : w4.heap.size < w9.heap.size + 1 + 1 + 1 := by omega
  replace sl_4 : w4.heap.size < w9.heap.size + 1 + 1 + 1 + 1 := by omega
  replace ml_1 : w4.heap.size + 1 < w9.heap.size + 1 := by omega
  replace ml_2 : w4.heap.size + 1 < w9.heap.size + 1 + 1 := by omega
  replace ml_3 : w4.heap.size + 1 < w9.heap.size + 1 + 1 + 1 := by omega
  replace ml_4 : w4.heap.size + 1 < w9.heap.size + 1 + 1 + 1 + 1 := by omega
  go_wp2_with fail
  refine Calls.mono (mp'.out _ _ ?_) ?_
  · exact RdU.below hp (below_trans HW (by repeat (first | exact Below.refl _ _ | assumption | (refine Below.drew ?_) | (refine below_drewN' ?_ _) | (refine below_alloc' ?_ _) | (refine Below.setCell ?_ (by first | exact Nat.le_refl _ | (simp; done) | (simp; omega)) _))))
  rintro e w10 ⟨v1, rfl, hv1, hb0⟩
  have HB : Below w9.heap.size w9 w10 := below_trans (by repeat (first | exact Below.refl _ _ | assumption | (refine Below.drew ?_) | (refine below_drewN' ?_ _) | (refine below_alloc' ?_ _) | (refine Below.setCell ?_ (by first | exact Nat.le_refl _ | (simp; done) | (simp; omega)) _))) hb0
  clear hb0
  replace a0 := Below.keeps HB _ _ a0
  replace a1 := Below.keeps HB _ _ a1
  replace a2 := Below.keeps HB _ _ a2
  replace a3 := Below.keeps HB _ _ a3
  replace k0 := Below.keeps HB _ _ k0
  replace k1 := Below.keeps HB _ _ k1
  replace k2 := Below.keeps HB _ _ k2
  replace k3 := Below.keeps HB _ _ k3
  replace n0 := Below.keeps HB _ _ n0
  replace n1 := Below.keeps HB _ _ n1
  replace n2 := Below.keeps HB _ _ n2
  replace n3 := Below.keeps HB _ _ n3
  replace s0 := Below.keeps HB _ _ s0
  replace s1 := Below.keeps HB _ _ s1
  replace s2 := Below.keeps HB _ _ s2
  replace s3 := Below.keeps HB _ _ s3
  replace m0 := Below.keeps HB _ _ m0
  replace m1 := Below.keeps HB _ _ m1
  replace m2 := Below.keeps HB _ _ m2
  replace m3 := Below.keeps HB _ _ m3
  replace mf := fun k => (HB.frozen (p := ⟨w4.heap.size + 1, k, none⟩) ml).trans (mf k)
  replace al := Nat.lt_of_lt_of_le al HB.size
  replace kl := Nat.lt_of_lt_of_le kl HB.size
  replace nl := Nat.lt_of_lt_of_le nl HB.size
  replace sl := Nat.lt_of_lt_of_le sl HB.size
  replace ml := Nat.lt_of_lt_of_le ml HB.size
  replace HW := below_trans HW HB
  clear HB
  replace al_1 : w.heap.size < w10.heap.size + 1 := by omega
  replace al_2 : w.heap.size < w10.heap.size + 1 + 1 := by omega
  replace al_3 : w.heap.size < w10.heap.size + 1 + 1 + 1 := by omega
  replace al_4 : w.heap.size < w10.heap.size + 1 + 1 + 1 + 1 := by omega
  replace kl_1 : w2.heap.size < w10.heap.size + 1 := by omega
  replace kl_2 : w2.heap.size < w10.heap.size + 1 + 1 := by omega
  replace kl_3 : w2.heap.size < w10.heap.size + 1 + 1 + 1 := by omega
  replace kl_4 : w2.heap.size < w10.heap.size + 1 + 1 + 1 + 1 := by omega
  replace nl_1 : w3.heap.size < w10.heap.size + 1 := by omega
  replace nl_2 : w3.heap.size < w10.heap.size + 1 + 1 := by omega
  replace nl_3 : w3.heap.size < w10.heap.size + 1 + 1 + 1 := by omega
  replace nl_4 : w3.heap.size < w10.heap.size + 1 + 1 + 1 + 1 := by omega
  replace sl_1 : w4.heap.size < w10.heap.size + 1 := by omega
  replace sl_2 : w4.heap.size < w10.heap.size + 1 + 1 := by omega
  replace sl_3 : w4.heap.size < w10.heap.size + 1 + 1 + 1 := by omega
  replace sl_4 : w4.heap.size < w10.heap.size + 1 + 1 + 1 + 1 := by omega
  replace ml_1 : w4.heap.size + 1 < w10.heap.size + 1 := by omega
  replace ml_2 : w4.heap.size + 1 < w10.heap.size + 1 + 1 := by omega
  replace ml_3 : w4.heap.size + 1 < w10.heap.size + 1 + 1 + 1 := by omega
  replace ml_4 : w4.heap.size + 1 < w10.heap.size + 1 + 1 + 1 + 1 := by omega
  go_wp2_with fail
  refine Calls.mono (mq'.out _ _ ?_) ?_
  · exact RdU.below hq (below_trans HW (by repeat (first | exact Below.refl _ _ | assumption | (refine Below.drew ?_) | (refine below_drewN' ?_ _) | (refine below_alloc' ?_ _) | (refine Below.setCell ?_ (by first | exact Nat.le_refl _ | (simp; done) | (simp; omega)) _))))
  rintro e w11 ⟨v2, rfl, hv2, hb0⟩
  have HB : Below w10.heap.size w10 w11 := below_trans (by repeat (first | exact Below.refl _ _ | assumption | (refine Below.drew ?_) | (refine below_drewN' ?_ _) | (refine below_alloc' ?_ _) | (refine Below.setCell ?_ (by first | exact Nat.le_refl _ | (simp; done) | (simp; omega)) _))) hb0
  clear hb0
  replace a0 := Below.keeps HB _ _ a0
  replace a1 := Below.keeps HB _ _ a1
  replace a2 := Below.keeps HB _ _ a2
  replace a3 := Below.keeps HB _ _ a3
  replace k0 := Below.keeps HB _ _ k0
  replace k1 := Below.keeps HB _ _ k1
  replace k2 := Below.keeps HB _ _ k2
  replace k3 := Below.keeps HB _ _ k3
  replace n0 := Below.keeps HB _ _ n0
  replace n1 := Below.keeps HB _ _ n1
  replace n2 := Below.keeps HB _ _ n2
  replace n3 := Below.keeps HB _ _ n3
  replace s0 := Below.keeps HB _ _ s0
  replace s1 := Below.keeps HB _ _ s1
  replace s2 := Below.keeps HB _ _ s2
  replace s3 := Below.keeps HB _ _ s3
  replace m0 := Below.keeps HB _ _ m0
  replace m1 := Below.keeps HB _ _ m1
  replace m2 := Below.keeps HB _ _ m2
  replace m3 := Below.keeps HB _ _ m3
  replace mf := fun k => (HB.frozen (p := ⟨w4.heap.size + 1, k, none⟩) ml).trans (mf k)
  replace hv1 := RdU.below hv1 HB
  replace al := Nat.lt_of_lt_of_le al HB.size
  replace kl := Nat.lt_of_lt_of_le kl HB.size
  replace nl := Nat.lt_of_lt_of_le nl HB.size
  replace sl := Nat.lt_of_lt_of_le sl HB.size
  replace ml := Nat.lt_of_lt_of_le ml HB.size
  replace HW := below_trans HW HB
  clear HB
  replace al_1 : w.heap.size < w11.heap.size + 1 := by omega
  replace al_2 : w.heap.size < w11.heap.size + 1 + 1 := by omega
  replace al_3 : w.heap.size < w11.heap.size + 1 + 1 + 1 := by omega
  replace al_4 : w.heap.size < w11.heap.size + 1 + 1 + 1 + 1 := by omega
  replace kl_1 : w2.heap.size < w11.heap.size + 1 := by omega
  replace kl_2 : w2.heap.size < w11.heap.size + 1 + 1 := by omega
  replace kl_3 : w2.heap.size < w11.heap.size + 1 + 1 + 1 := by omega
  replace kl_4 : w2.heap.size < w11.heap.size + 1 + 1 + 1 + 1 := by omega
  replace nl_1 : w3.heap.size < w11.heap.size + 1 := by omega
  replace nl_2 : w3.heap.size < w11.heap.size + 1 + 1 := by omega
  replace nl_3 : w3.heap.size < w11.heap.size + 1 + 1 + 1 := by omega
  replace nl_4 : w3.heap.size < w11.heap.size + 1 + 1 + 1 + 1 := by omega
  replace sl_1 : w4.heap.size < w11.heap.size + 1 := by omega
  replace sl_2 : w4.heap.size < w11.heap.size + 1 + 1 := by omega
  replace sl_3 : w4.heap.size < w11.heap.size + 1 + 1 + 1 := by omega
  replace sl_4 : w4.heap.size < w11.heap.size + 1 + 1 + 1 + 1 := by omega
  replace ml_1 : w4.heap.size + 1 < w11.heap.size + 1 := by omega
  replace ml_2 : w4.heap.size + 1 < w11.heap.size + 1 + 1 := by omega
  replace ml_3 : w4.heap.size + 1 < w11.heap.size + 1 + 1 + 1 := by omega
  replace ml_4 : w4.heap.size + 1 < w11.heap.size + 1 + 1 + 1 + 1 := by omega
  go_wp2_with fail
  refine Calls.mono (F1'.out _ _ _ ?_ ?_) ?_
  · exact RdU.below hv1 (by repeat (first | exact Below.refl _ _ | assumption | (refine Below.drew ?_) | (refine below_drewN' ?_ _) | (refine below_alloc' ?_ _) | (refine Below.setCell ?_ (by first | exact Nat.le_refl _ | (simp; done) | (simp; omega)) _)))
  · exact RdU.below hv2 (by repeat (first | exact Below.refl _ _ | assumption | (refine Below.drew ?_) | (refine below_drewN' ?_ _) | (refine below_alloc' ?_ _) | (refine Below.setCell ?_ (by first | exact Nat.le_refl _ | (simp; done) | (simp; omega)) _)))
  rintro e w20 ⟨rfl, n1, rfl⟩
  go_wp2_with fail
  refine Calls.mono (F2'.out _ _ _ ?_ ?_) ?_
  · exact eps'.out ▸ RdU.below hp (below_trans HW (by repeat (first | exact Below.refl _ _ | assumption | (refine Below.drew ?_) | (refine below_drewN' ?_ _) | (refine below_alloc' ?_ _) | (refine Below.setCell ?_ (by first | exact Nat.le_refl _ | (simp; done) | (simp; omega)) _))))
  · exact eqs'.out ▸ RdU.below hq (below_trans HW (by repeat (first | exact Below.refl _ _ | assumption | (refine Below.drew ?_) | (refine below_drewN' ?_ _) | (refine below_alloc' ?_ _) | (refine Below.setCell ?_ (by first | exact Nat.le_refl _ | (simp; done) | (simp; omega)) _))))
  rintro e w20 ⟨rfl, n2, rfl⟩
  go_wp2_with fail
  go_ret
  exact ⟨rfl, below_trans HW (by repeat (first | exact Below.refl _ _ | assumption | (refine Below.drew ?_) | (refine below_drewN' ?_ _) | (refine below_alloc' ?_ _) | (refine Below.setCell ?_ (by first | exact Nat.le_refl _ | (simp; done) | (simp; omega)) _)))⟩


end Go.Proofs.Ytlmgabhdeeehmaa
