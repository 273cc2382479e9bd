/-
  PlaneMoves: any motion moves any point as the chapter says, or there is its error; moved back it is as it was; a further motion, and both at once, come to the same: the ways through it.
-/
import Derived.Test.YtlmgabhdeeehmaaRef27
import Derived.Test.YtlmgabhdeeehmaaPlane3
import Derived.Test.YtlmgabhdeeehmaaMovesPure
namespace Go.Proofs.Ytlmgabhdeeehmaa
open Go.RowKit
set_option linter.unusedVariables false
set_option linter.unusedSimpArgs false

set_option maxRecDepth 100000 in
set_option maxHeartbeats 8000000 in
theorem moves_in_dim (t : Int) (f : Bool) (x y u : Int) (g : Bool) (c d : Int) (A : Option Addr) (n cp : Nat) (xs : List Int) (w : World) (hv : RdU w (.slice A n cp) xs) (h40 : n ≤ 40) (hr : Pl.rightB t x y = true) (bt bx bY : Int) (bk : ∀ w : World, Calls Try.prog 21 #[Mo t f x y] w fun e w' => e = .returned (.tuple #[Mo bt f bx bY, .int .i64 0]) ∧ Below w.heap.size w w') (hbr : Pl.rightB bt bx bY = true) (hn : n ≠ 2) (mv : ∀ (w : World) (v : Value), RdU w v xs → Calls Try.prog 20 #[Mo t f x y, v] w (RetPt w ([], 2))) (hs : Pl.rightB u c d = true) (tt : Int) (fg : Bool) (X1 Y1 : Int) (hX1 : -8388608 ≤ X1 ∧ X1 ≤ 8388608) (hY1 : -8388608 ≤ Y1 ∧ Y1 ≤ 8388608) (tu : ∀ w : World, Calls Try.prog 25 #[.int .i64 u, .bool g, .int .i64 x, .int .i64 y] w fun e w' => e = .returned (.tuple #[.int .i64 X1, .int .i64 Y1]) ∧ w = w') (hi : Pl.rightB 0 (X1 + c) (Y1 + d) = true) (hi2 : Pl.rightB tt (X1 + c) (Y1 + d) = true) (th : ∀ w : World, Calls Try.prog 22 #[Mo t f x y, Mo u g c d] w fun e w' => e = .returned (.tuple #[Mo tt fg (X1 + c) (Y1 + d), .int .i64 0]) ∧ Below w.heap.size w w') :
    Calls Try.prog 4 #[Mo t f x y, Mo u g c d, .slice A n cp] w fun e w' => e = .returned (.bool true) ∧ Below w.heap.size w w' := by
  have hR := Pl.rightB_iff.1 hr
  have hS := Pl.rightB_iff.1 hs
  have mv' := Lib.hid mv
  have th' := Lib.hid th
  have bk' := Lib.hid bk
  have hbr' := Lib.hid hbr
  have hr' := Lib.hid hr
  have hs' := Lib.hid hs
  have tu' := Lib.hid tu
  have hi' := Lib.hid hi
  have hi2' := Lib.hid hi2
  clear mv th bk hbr hr hs tu hi hi2
  go_enter Try.func4, Try.ntmps4
  go_wp2_with fail
  refine Calls.mono (awake27 _) ?_
  rintro e w1 ⟨rfl, hb0⟩
  have a0 : w1.cell? ⟨w.heap.size, 0, none⟩ = some (.int .i64 t) := Below.keeps hb0 _ _ (by simp [go_sem])
  have a1 : w1.cell? ⟨w.heap.size, 1, none⟩ = some (.bool f) := Below.keeps hb0 _ _ (by simp [go_sem])
  have a2 : w1.cell? ⟨w.heap.size, 2, none⟩ = some (.int .i64 x) := Below.keeps hb0 _ _ (by simp [go_sem])
  have a3 : w1.cell? ⟨w.heap.size, 3, none⟩ = some (.int .i64 y) := Below.keeps hb0 _ _ (by simp [go_sem])
  have b0 : w1.cell? ⟨w.heap.size + 1, 0, none⟩ = some (.int .i64 u) := Below.keeps hb0 _ _ (by simp [go_sem])
  have b1 : w1.cell? ⟨w.heap.size + 1, 1, none⟩ = some (.bool g) := Below.keeps hb0 _ _ (by simp [go_sem])
  have b2 : w1.cell? ⟨w.heap.size + 1, 2, none⟩ = some (.int .i64 c) := Below.keeps hb0 _ _ (by simp [go_sem])
  have b3 : w1.cell? ⟨w.heap.size + 1, 3, none⟩ = some (.int .i64 d) := Below.keeps hb0 _ _ (by simp [go_sem])
  have HB : Below w.heap.size w w1 := below_trans (by repeat (first | exact Below.refl _ _ | assumption | (refine Below.drew ?_) | (refine below_drewN' ?_ _) | (refine below_alloc' ?_ _) | (refine Below.setCell ?_ (by first | exact Nat.le_refl _ | (simp; done) | (simp; omega)) _))) hb0
  clear hb0
  replace hv := RdU.below hv HB
  have al : w.heap.size < w1.heap.size := World.block_lt_of_cell? w1 _ a0
  have bl : w.heap.size + 1 < w1.heap.size := World.block_lt_of_cell? w1 _ b0
  have HW := HB
  have al_1 : w.heap.size < w1.heap.size + 1 := by omega
  have al_2 : w.heap.size < w1.heap.size + 1 + 1 := by omega
  have al_3 : w.heap.size < w1.heap.size + 1 + 1 + 1 := by omega
  have al_4 : w.heap.size < w1.heap.size + 1 + 1 + 1 + 1 := by omega
  have bl_1 : w.heap.size + 1 < w1.heap.size + 1 := by omega
  have bl_2 : w.heap.size + 1 < w1.heap.size + 1 + 1 := by omega
  have bl_3 : w.heap.size + 1 < w1.heap.size + 1 + 1 + 1 := by omega
  have bl_4 : w.heap.size + 1 < w1.heap.size + 1 + 1 + 1 + 1 := by omega
  clear HB
  go_wp2_with fail
  refine Calls.mono (mv'.out _ _ ?_) ?_
  · exact RdU.below hv (by repeat (first | exact Below.refl _ _ | assumption | (refine Below.drew ?_) | (refine below_drewN' ?_ _) | (refine below_alloc' ?_ _) | (refine Below.setCell ?_ (by first | exact Nat.le_refl _ | (simp; done) | (simp; omega)) _)))
  rintro e w2 ⟨v1, rfl, hv1, hb0⟩
  have HB : Below w1.heap.size w1 w2 := below_trans (by repeat (first | exact Below.refl _ _ | assumption | (refine Below.drew ?_) | (refine below_drewN' ?_ _) | (refine below_alloc' ?_ _) | (refine Below.setCell ?_ (by first | exact Nat.le_refl _ | (simp; done) | (simp; omega)) _))) hb0
  clear hb0
  replace a0 := Below.keeps HB _ _ a0
  replace a1 := Below.keeps HB _ _ a1
  replace a2 := Below.keeps HB _ _ a2
  replace a3 := Below.keeps HB _ _ a3
  replace b0 := Below.keeps HB _ _ b0
  replace b1 := Below.keeps HB _ _ b1
  replace b2 := Below.keeps HB _ _ b2
  replace b3 := Below.keeps HB _ _ b3
  replace al := Nat.lt_of_lt_of_le al HB.size
  replace bl := Nat.lt_of_lt_of_le bl HB.size
  replace hv := RdU.below hv HB
  replace HW := below_trans HW HB
  replace al_1 : w.heap.size < w2.heap.size + 1 := by omega
  replace al_2 : w.heap.size < w2.heap.size + 1 + 1 := by omega
  replace al_3 : w.heap.size < w2.heap.size + 1 + 1 + 1 := by omega
  replace al_4 : w.heap.size < w2.heap.size + 1 + 1 + 1 + 1 := by omega
  replace bl_1 : w.heap.size + 1 < w2.heap.size + 1 := by omega
  replace bl_2 : w.heap.size + 1 < w2.heap.size + 1 + 1 := by omega
  replace bl_3 : w.heap.size + 1 < w2.heap.size + 1 + 1 + 1 := by omega
  replace bl_4 : w.heap.size + 1 < w2.heap.size + 1 + 1 + 1 + 1 := by omega
  clear HB
  obtain ⟨A1, cp1, rfl, _⟩ := hv1.slice
  clear hv1
  go_wp2_with fail
  refine Calls.mono (bk'.out _) ?_
  rintro e w3 ⟨rfl, hb0⟩
  have HB : Below w2.heap.size w2 w3 := below_trans (by repeat (first | exact Below.refl _ _ | assumption | (refine Below.drew ?_) | (refine below_drewN' ?_ _) | (refine below_alloc' ?_ _) | (refine Below.setCell ?_ (by first | exact Nat.le_refl _ | (simp; done) | (simp; omega)) _))) hb0
  clear hb0
  replace a0 := Below.keeps HB _ _ a0
  replace a1 := Below.keeps HB _ _ a1
  replace a2 := Below.keeps HB _ _ a2
  replace a3 := Below.keeps HB _ _ a3
  replace b0 := Below.keeps HB _ _ b0
  replace b1 := Below.keeps HB _ _ b1
  replace b2 := Below.keeps HB _ _ b2
  replace b3 := Below.keeps HB _ _ b3
  replace al := Nat.lt_of_lt_of_le al HB.size
  replace bl := Nat.lt_of_lt_of_le bl HB.size
  replace hv := RdU.below hv HB
  replace HW := below_trans HW HB
  replace al_1 : w.heap.size < w3.heap.size + 1 := by omega
  replace al_2 : w.heap.size < w3.heap.size + 1 + 1 := by omega
  replace al_3 : w.heap.size < w3.heap.size + 1 + 1 + 1 := by omega
  replace al_4 : w.heap.size < w3.heap.size + 1 + 1 + 1 + 1 := by omega
  replace bl_1 : w.heap.size + 1 < w3.heap.size + 1 := by omega
  replace bl_2 : w.heap.size + 1 < w3.heap.size + 1 + 1 := by omega
  replace bl_3 : w.heap.size + 1 < w3.heap.size + 1 + 1 + 1 := by omega
  replace bl_4 : w.heap.size + 1 < w3.heap.size + 1 + 1 + 1 + 1 := by omega
  clear HB
  go_wp2_with fail
  refine Calls.mono (th'.out _) ?_
  rintro e w4 ⟨rfl, hb0⟩
  have k0 : w4.cell? ⟨w3.heap.size, 0, none⟩ = some (.int .i64 bt) := Below.keeps hb0 _ _ (by simp [go_sem])
  have k1 : w4.cell? ⟨w3.heap.size, 1, none⟩ = some (.bool f) := Below.keeps hb0 _ _ (by simp [go_sem])
  have k2 : w4.cell? ⟨w3.heap.size, 2, none⟩ = some (.int .i64 bx) := Below.keeps hb0 _ _ (by simp [go_sem])
  have k3 : w4.cell? ⟨w3.heap.size, 3, none⟩ = some (.int .i64 bY) := Below.keeps hb0 _ _ (by simp [go_sem])
  have HB : Below w3.heap.size w3 w4 := below_trans (by repeat (first | exact Below.refl _ _ | assumption | (refine Below.drew ?_) | (refine below_drewN' ?_ _) | (refine below_alloc' ?_ _) | (refine Below.setCell ?_ (by first | exact Nat.le_refl _ | (simp; done) | (simp; omega)) _))) hb0
  clear hb0
  replace a0 := Below.keeps HB _ _ a0
  replace a1 := Below.keeps HB _ _ a1
  replace a2 := Below.keeps HB _ _ a2
  replace a3 := Below.keeps HB _ _ a3
  replace b0 := Below.keeps HB _ _ b0
  replace b1 := Below.keeps HB _ _ b1
  replace b2 := Below.keeps HB _ _ b2
  replace b3 := Below.keeps HB _ _ b3
  replace al := Nat.lt_of_lt_of_le al HB.size
  replace bl := Nat.lt_of_lt_of_le bl HB.size
  replace hv := RdU.below hv HB
  have kl : w3.heap.size < w4.heap.size := World.block_lt_of_cell? w4 _ k0
  replace HW := below_trans HW HB
  replace al_1 : w.heap.size < w4.heap.size + 1 := by omega
  replace al_2 : w.heap.size < w4.heap.size + 1 + 1 := by omega
  replace al_3 : w.heap.size < w4.heap.size + 1 + 1 + 1 := by omega
  replace al_4 : w.heap.size < w4.heap.size + 1 + 1 + 1 + 1 := by omega
  replace bl_1 : w.heap.size + 1 < w4.heap.size + 1 := by omega
  replace bl_2 : w.heap.size + 1 < w4.heap.size + 1 + 1 := by omega
  replace bl_3 : w.heap.size + 1 < w4.heap.size + 1 + 1 + 1 := by omega
  replace bl_4 : w.heap.size + 1 < w4.heap.size + 1 + 1 + 1 + 1 := by omega
  have kl_1 : w3.heap.size < w4.heap.size + 1 := by omega
  have kl_2 : w3.heap.size < w4.heap.size + 1 + 1 := by omega
  have kl_3 : w3.heap.size < w4.heap.size + 1 + 1 + 1 := by omega
  have kl_4 : w3.heap.size < w4.heap.size + 1 + 1 + 1 + 1 := by omega
  clear HB
  go_wp2_with fail
  refine Calls.mono (RefRight_any t x y _) ?_
  rintro e w5 ⟨rfl, rfl⟩
  rw [hr'.out]
  go_wp2_with fail
  refine Calls.mono (Right_any t f x y _) ?_
  rintro e w5 ⟨rfl, rfl⟩
  rw [hr'.out]
  go_wp2_with fail
  refine Calls.mono (Right_any bt f bx bY _) ?_
  rintro e w5 ⟨rfl, rfl⟩
  rw [hbr'.out]
  go_wp2_with fail
  refine Calls.mono (RefRight_any u c d _) ?_
  rintro e w5 ⟨rfl, rfl⟩
  rw [hs'.out]
  go_wp2_with fail
  refine Calls.mono (tu'.out _) ?_
  rintro e w5 ⟨rfl, rfl⟩
  go_wp2_with fail
  refine Calls.mono (RefRight_any 0 _ _ _) ?_
  rintro e w5 ⟨rfl, rfl⟩
  rw [hi'.out]
  go_wp2_with fail
  refine Calls.mono (Right_any tt fg _ _ _) ?_
  rintro e w5 ⟨rfl, rfl⟩
  rw [hi2'.out]
  go_wp2_with fail
  go_ret
  exact ⟨rfl, below_trans HW (by repeat (first | exact Below.refl _ _ | assumption | (refine Below.drew ?_) | (refine below_drewN' ?_ _) | (refine below_alloc' ?_ _) | (refine Below.setCell ?_ (by first | exact Nat.le_refl _ | (simp; done) | (simp; omega)) _)))⟩

set_option maxRecDepth 100000 in
set_option maxHeartbeats 8000000 in
theorem moves_in_small (t : Int) (f : Bool) (x y u : Int) (g : Bool) (c d : Int) (A : Option Addr) (n cp : Nat) (xs : List Int) (w : World) (hv : RdU w (.slice A n cp) xs) (h40 : n ≤ 40) (hr : Pl.rightB t x y = true) (bt bx bY : Int) (bk : ∀ w : World, Calls Try.prog 21 #[Mo t f x y] w fun e w' => e = .returned (.tuple #[Mo bt f bx bY, .int .i64 0]) ∧ Below w.heap.size w w') (hbr : Pl.rightB bt bx bY = true) (p q : Int) (hxs : xs = [p, q]) (hp : 0 ≤ p) (hq : 0 ≤ q) (hn : n = 2) (hsm : Pl.smallB xs = false) (mv : ∀ (w : World) (v : Value), RdU w v xs → Calls Try.prog 20 #[Mo t f x y, v] w (RetPt w ([], 3))) (hs : Pl.rightB u c d = true) (tt : Int) (fg : Bool) (X1 Y1 : Int) (hX1 : -8388608 ≤ X1 ∧ X1 ≤ 8388608) (hY1 : -8388608 ≤ Y1 ∧ Y1 ≤ 8388608) (tu : ∀ w : World, Calls Try.prog 25 #[.int .i64 u, .bool g, .int .i64 x, .int .i64 y] w fun e w' => e = .returned (.tuple #[.int .i64 X1, .int .i64 Y1]) ∧ w = w') (hi : Pl.rightB 0 (X1 + c) (Y1 + d) = true) (hi2 : Pl.rightB tt (X1 + c) (Y1 + d) = true) (th : ∀ w : World, Calls Try.prog 22 #[Mo t f x y, Mo u g c d] w fun e w' => e = .returned (.tuple #[Mo tt fg (X1 + c) (Y1 + d), .int .i64 0]) ∧ Below w.heap.size w w') :
    Calls Try.prog 4 #[Mo t f x y, Mo u g c d, .slice A n cp] w fun e w' => e = .returned (.bool true) ∧ Below w.heap.size w w' := by
  have hR := Pl.rightB_iff.1 hr
  have hS := Pl.rightB_iff.1 hs
  have mv' := Lib.hid mv
  have th' := Lib.hid th
  have bk' := Lib.hid bk
  have hbr' := Lib.hid hbr
  have hr' := Lib.hid hr
  have hs' := Lib.hid hs
  have tu' := Lib.hid tu
  have hi' := Lib.hid hi
  have hi2' := Lib.hid hi2
  have hxs' := Lib.hid hxs
  have hsm' := Lib.hid hsm
  clear mv th bk hbr hr hs tu hi hi2 hxs hsm
  subst hn
  go_enter Try.func4, Try.ntmps4
  go_wp2_with fail
  refine Calls.mono (awake27 _) ?_
  rintro e w1 ⟨rfl, hb0⟩
  have a0 : w1.cell? ⟨w.heap.size, 0, none⟩ = some (.int .i64 t) := Below.keeps hb0 _ _ (by simp [go_sem])
  have a1 : w1.cell? ⟨w.heap.size, 1, none⟩ = some (.bool f) := Below.keeps hb0 _ _ (by simp [go_sem])
  have a2 : w1.cell? ⟨w.heap.size, 2, none⟩ = some (.int .i64 x) := Below.keeps hb0 _ _ (by simp [go_sem])
  have a3 : w1.cell? ⟨w.heap.size, 3, none⟩ = some (.int .i64 y) := Below.keeps hb0 _ _ (by simp [go_sem])
  have b0 : w1.cell? ⟨w.heap.size + 1, 0, none⟩ = some (.int .i64 u) := Below.keeps hb0 _ _ (by simp [go_sem])
  have b1 : w1.cell? ⟨w.heap.size + 1, 1, none⟩ = some (.bool g) := Below.keeps hb0 _ _ (by simp [go_sem])
  have b2 : w1.cell? ⟨w.heap.size + 1, 2, none⟩ = some (.int .i64 c) := Below.keeps hb0 _ _ (by simp [go_sem])
  have b3 : w1.cell? ⟨w.heap.size + 1, 3, none⟩ = some (.int .i64 d) := Below.keeps hb0 _ _ (by simp [go_sem])
  have HB : Below w.heap.size w w1 := below_trans (by repeat (first | exact Below.refl _ _ | assumption | (refine Below.drew ?_) | (refine below_drewN' ?_ _) | (refine below_alloc' ?_ _) | (refine Below.setCell ?_ (by first | exact Nat.le_refl _ | (simp; done) | (simp; omega)) _))) hb0
  clear hb0
  replace hv := RdU.below hv HB
  have al : w.heap.size < w1.heap.size := World.block_lt_of_cell? w1 _ a0
  have bl : w.heap.size + 1 < w1.heap.size := World.block_lt_of_cell? w1 _ b0
  have HW := HB
  have al_1 : w.heap.size < w1.heap.size + 1 := by omega
  have al_2 : w.heap.size < w1.heap.size + 1 + 1 := by omega
  have al_3 : w.heap.size < w1.heap.size + 1 + 1 + 1 := by omega
  have al_4 : w.heap.size < w1.heap.size + 1 + 1 + 1 + 1 := by omega
  have bl_1 : w.heap.size + 1 < w1.heap.size + 1 := by omega
  have bl_2 : w.heap.size + 1 < w1.heap.size + 1 + 1 := by omega
  have bl_3 : w.heap.size + 1 < w1.heap.size + 1 + 1 + 1 := by omega
  have bl_4 : w.heap.size + 1 < w1.heap.size + 1 + 1 + 1 + 1 := by omega
  clear HB
  go_wp2_with fail
  refine Calls.mono (mv'.out _ _ ?_) ?_
  · exact RdU.below hv (by repeat (first | exact Below.refl _ _ | assumption | (refine Below.drew ?_) | (refine below_drewN' ?_ _) | (refine below_alloc' ?_ _) | (refine Below.setCell ?_ (by first | exact Nat.le_refl _ | (simp; done) | (simp; omega)) _)))
  rintro e w2 ⟨v1, rfl, hv1, hb0⟩
  have HB : Below w1.heap.size w1 w2 := below_trans (by repeat (first | exact Below.refl _ _ | assumption | (refine Below.drew ?_) | (refine below_drewN' ?_ _) | (refine below_alloc' ?_ _) | (refine Below.setCell ?_ (by first | exact Nat.le_refl _ | (simp; done) | (simp; omega)) _))) hb0
  clear hb0
  replace a0 := Below.keeps HB _ _ a0
  replace a1 := Below.keeps HB _ _ a1
  replace a2 := Below.keeps HB _ _ a2
  replace a3 := Below.keeps HB _ _ a3
  replace b0 := Below.keeps HB _ _ b0
  replace b1 := Below.keeps HB _ _ b1
  replace b2 := Below.keeps HB _ _ b2
  replace b3 := Below.keeps HB _ _ b3
  replace al := Nat.lt_of_lt_of_le al HB.size
  replace bl := Nat.lt_of_lt_of_le bl HB.size
  replace hv := RdU.below hv HB
  replace HW := below_trans HW HB
  replace al_1 : w.heap.size < w2.heap.size + 1 := by omega
  replace al_2 : w.heap.size < w2.heap.size + 1 + 1 := by omega
  replace al_3 : w.heap.size < w2.heap.size + 1 + 1 + 1 := by omega
  replace al_4 : w.heap.size < w2.heap.size + 1 + 1 + 1 + 1 := by omega
  replace bl_1 : w.heap.size + 1 < w2.heap.size + 1 := by omega
  replace bl_2 : w.heap.size + 1 < w2.heap.size + 1 + 1 := by omega
  replace bl_3 : w.heap.size + 1 < w2.heap.size + 1 + 1 + 1 := by omega
  replace bl_4 : w.heap.size + 1 < w2.heap.size + 1 + 1 + 1 + 1 := by omega
  clear HB
  obtain ⟨A1, cp1, rfl, _⟩ := hv1.slice
  clear hv1
  go_wp2_with fail
  refine Calls.mono (bk'.out _) ?_
  rintro e w3 ⟨rfl, hb0⟩
  have HB : Below w2.heap.size w2 w3 := below_trans (by repeat (first | exact Below.refl _ _ | assumption | (refine Below.drew ?_) | (refine below_drewN' ?_ _) | (refine below_alloc' ?_ _) | (refine Below.setCell ?_ (by first | exact Nat.le_refl _ | (simp; done) | (simp; omega)) _))) hb0
  clear hb0
  replace a0 := Below.keeps HB _ _ a0
  replace a1 := Below.keeps HB _ _ a1
  replace a2 := Below.keeps HB _ _ a2
  replace a3 := Below.keeps HB _ _ a3
  replace b0 := Below.keeps HB _ _ b0
  replace b1 := Below.keeps HB _ _ b1
  replace b2 := Below.keeps HB _ _ b2
  replace b3 := Below.keeps HB _ _ b3
  replace al := Nat.lt_of_lt_of_le al HB.size
  replace bl := Nat.lt_of_lt_of_le bl HB.size
  replace hv := RdU.below hv HB
  replace HW := below_trans HW HB
  replace al_1 : w.heap.size < w3.heap.size + 1 := by omega
  replace al_2 : w.heap.size < w3.heap.size + 1 + 1 := by omega
  replace al_3 : w.heap.size < w3.heap.size + 1 + 1 + 1 := by omega
  replace al_4 : w.heap.size < w3.heap.size + 1 + 1 + 1 + 1 := by omega
  replace bl_1 : w.heap.size + 1 < w3.heap.size + 1 := by omega
  replace bl_2 : w.heap.size + 1 < w3.heap.size + 1 + 1 := by omega
  replace bl_3 : w.heap.size + 1 < w3.heap.size + 1 + 1 + 1 := by omega
  replace bl_4 : w.heap.size + 1 < w3.heap.size + 1 + 1 + 1 + 1 := by omega
  clear HB
  go_wp2_with fail
  refine Calls.mono (th'.out _) ?_
  rintro e w4 ⟨rfl, hb0⟩
  have k0 : w4.cell? ⟨w3.heap.size, 0, none⟩ = some (.int .i64 bt) := Below.keeps hb0 _ _ (by simp [go_sem])
  have k1 : w4.cell? ⟨w3.heap.size, 1, none⟩ = some (.bool f) := Below.keeps hb0 _ _ (by simp [go_sem])
  have k2 : w4.cell? ⟨w3.heap.size, 2, none⟩ = some (.int .i64 bx) := Below.keeps hb0 _ _ (by simp [go_sem])
  have k3 : w4.cell? ⟨w3.heap.size, 3, none⟩ = some (.int .i64 bY) := Below.keeps hb0 _ _ (by simp [go_sem])
  have HB : Below w3.heap.size w3 w4 := below_trans (by repeat (first | exact Below.refl _ _ | assumption | (refine Below.drew ?_) | (refine below_drewN' ?_ _) | (refine below_alloc' ?_ _) | (refine Below.setCell ?_ (by first | exact Nat.le_refl _ | (simp; done) | (simp; omega)) _))) hb0
  clear hb0
  replace a0 := Below.keeps HB _ _ a0
  replace a1 := Below.keeps HB _ _ a1
  replace a2 := Below.keeps HB _ _ a2
  replace a3 := Below.keeps HB _ _ a3
  replace b0 := Below.keeps HB _ _ b0
  replace b1 := Below.keeps HB _ _ b1
  replace b2 := Below.keeps HB _ _ b2
  replace b3 := Below.keeps HB _ _ b3
  replace al := Nat.lt_of_lt_of_le al HB.size
  replace bl := Nat.lt_of_lt_of_le bl HB.size
  replace hv := RdU.below hv HB
  have kl : w3.heap.size < w4.heap.size := World.block_lt_of_cell? w4 _ k0
  replace HW := below_trans HW HB
  replace al_1 : w.heap.size < w4.heap.size + 1 := by omega
  replace al_2 : w.heap.size < w4.heap.size + 1 + 1 := by omega
  replace al_3 : w.heap.size < w4.heap.size + 1 + 1 + 1 := by omega
  replace al_4 : w.heap.size < w4.heap.size + 1 + 1 + 1 + 1 := by omega
  replace bl_1 : w.heap.size + 1 < w4.heap.size + 1 := by omega
  replace bl_2 : w.heap.size + 1 < w4.heap.size + 1 + 1 := by omega
  replace bl_3 : w.heap.size + 1 < w4.heap.size + 1 + 1 + 1 := by omega
  replace bl_4 : w.heap.size + 1 < w4.heap.size + 1 + 1 + 1 + 1 := by omega
  have kl_1 : w3.heap.size < w4.heap.size + 1 := by omega
  have kl_2 : w3.heap.size < w4.heap.size + 1 + 1 := by omega
  have kl_3 : w3.heap.size < w4.heap.size + 1 + 1 + 1 := by omega
  have kl_4 : w3.heap.size < w4.heap.size + 1 + 1 + 1 + 1 := by omega
  clear HB
  go_wp2_with fail
  refine Calls.mono (RefRight_any t x y _) ?_
  rintro e w5 ⟨rfl, rfl⟩
  rw [hr'.out]
  go_wp2_with fail
  refine Calls.mono (Right_any t f x y _) ?_
  rintro e w5 ⟨rfl, rfl⟩
  rw [hr'.out]
  go_wp2_with fail
  refine Calls.mono (Right_any bt f bx bY _) ?_
  rintro e w5 ⟨rfl, rfl⟩
  rw [hbr'.out]
  go_wp2_with fail
  refine Calls.mono (RefRight_any u c d _) ?_
  rintro e w5 ⟨rfl, rfl⟩
  rw [hs'.out]
  go_wp2_with fail
  refine Calls.mono (tu'.out _) ?_
  rintro e w5 ⟨rfl, rfl⟩
  go_wp2_with fail
  refine Calls.mono (RefRight_any 0 _ _ _) ?_
  rintro e w5 ⟨rfl, rfl⟩
  rw [hi'.out]
  go_wp2_with fail
  refine Calls.mono (Right_any tt fg _ _ _) ?_
  rintro e w5 ⟨rfl, rfl⟩
  rw [hi2'.out]
  go_wp2_with fail
  refine Calls.mono (Small_any _ xs _ ?_) ?_
  · exact RdU.below hv (by repeat (first | exact Below.refl _ _ | assumption | (refine Below.drew ?_) | (refine below_drewN' ?_ _) | (refine below_alloc' ?_ _) | (refine Below.setCell ?_ (by first | exact Nat.le_refl _ | (simp; done) | (simp; omega)) _)))
  rintro e w5 ⟨rfl, rfl⟩
  rw [hsm'.out]
  go_wp2_with fail
  go_ret
  exact ⟨rfl, below_trans HW (by repeat (first | exact Below.refl _ _ | assumption | (refine Below.drew ?_) | (refine below_drewN' ?_ _) | (refine below_alloc' ?_ _) | (refine Below.setCell ?_ (by first | exact Nat.le_refl _ | (simp; done) | (simp; omega)) _)))⟩

set_option maxRecDepth 100000 in
set_option maxHeartbeats 8000000 in
theorem moves_in_long (t : Int) (f : Bool) (x y u : Int) (g : Bool) (c d : Int) (A : Option Addr) (n cp : Nat) (xs : List Int) (w : World) (hv : RdU w (.slice A n cp) xs) (h40 : n ≤ 40) (hr : Pl.rightB t x y = true) (bt bx bY : Int) (bk : ∀ w : World, Calls Try.prog 21 #[Mo t f x y] w fun e w' => e = .returned (.tuple #[Mo bt f bx bY, .int .i64 0]) ∧ Below w.heap.size w w') (hbr : Pl.rightB bt bx bY = true) (p q : Int) (hxs : xs = [p, q]) (hp : 0 ≤ p) (hq : 0 ≤ q) (hn : n = 2) (hsm : Pl.smallB xs = true) (mv : ∀ (w : World) (v : Value), RdU w v xs → Calls Try.prog 20 #[Mo t f x y, v] w (RetPt w ([], 11))) (hs : Pl.rightB u c d = true) (tt : Int) (fg : Bool) (X1 Y1 : Int) (hX1 : -8388608 ≤ X1 ∧ X1 ≤ 8388608) (hY1 : -8388608 ≤ Y1 ∧ Y1 ≤ 8388608) (tu : ∀ w : World, Calls Try.prog 25 #[.int .i64 u, .bool g, .int .i64 x, .int .i64 y] w fun e w' => e = .returned (.tuple #[.int .i64 X1, .int .i64 Y1]) ∧ w = w') (hi : Pl.rightB 0 (X1 + c) (Y1 + d) = true) (hi2 : Pl.rightB tt (X1 + c) (Y1 + d) = true) (th : ∀ w : World, Calls Try.prog 22 #[Mo t f x y, Mo u g c d] w fun e w' => e = .returned (.tuple #[Mo tt fg (X1 + c) (Y1 + d), .int .i64 0]) ∧ Below w.heap.size w w') (rm : ∀ (w : World) (v : Value), RdU w v [p, q] → Calls Try.prog 26 #[.int .i64 t, .bool f, .int .i64 x, .int .i64 y, v] w (RetPtB w [] false)) :
    Calls Try.prog 4 #[Mo t f x y, Mo u g c d, .slice A n cp] w fun e w' => e = .returned (.bool true) ∧ Below w.heap.size w w' := by
  have hR := Pl.rightB_iff.1 hr
  have hS := Pl.rightB_iff.1 hs
  have mv' := Lib.hid mv
  have th' := Lib.hid th
  have bk' := Lib.hid bk
  have hbr' := Lib.hid hbr
  have hr' := Lib.hid hr
  have hs' := Lib.hid hs
  have tu' := Lib.hid tu
  have hi' := Lib.hid hi
  have hi2' := Lib.hid hi2
  have rm' := Lib.hid rm
  have hxs' := Lib.hid hxs
  have hsm' := Lib.hid hsm
  clear mv th bk hbr hr hs tu hi hi2 rm hxs hsm
  subst hn
  go_enter Try.func4, Try.ntmps4
  go_wp2_with fail
  refine Calls.mono (awake27 _) ?_
  rintro e w1 ⟨rfl, hb0⟩
  have a0 : w1.cell? ⟨w.heap.size, 0, none⟩ = some (.int .i64 t) := Below.keeps hb0 _ _ (by simp [go_sem])
  have a1 : w1.cell? ⟨w.heap.size, 1, none⟩ = some (.bool f) := Below.keeps hb0 _ _ (by simp [go_sem])
  have a2 : w1.cell? ⟨w.heap.size, 2, none⟩ = some (.int .i64 x) := Below.keeps hb0 _ _ (by simp [go_sem])
  have a3 : w1.cell? ⟨w.heap.size, 3, none⟩ = some (.int .i64 y) := Below.keeps hb0 _ _ (by simp [go_sem])
  have b0 : w1.cell? ⟨w.heap.size + 1, 0, none⟩ = some (.int .i64 u) := Below.keeps hb0 _ _ (by simp [go_sem])
  have b1 : w1.cell? ⟨w.heap.size + 1, 1, none⟩ = some (.bool g) := Below.keeps hb0 _ _ (by simp [go_sem])
  have b2 : w1.cell? ⟨w.heap.size + 1, 2, none⟩ = some (.int .i64 c) := Below.keeps hb0 _ _ (by simp [go_sem])
  have b3 : w1.cell? ⟨w.heap.size + 1, 3, none⟩ = some (.int .i64 d) := Below.keeps hb0 _ _ (by simp [go_sem])
  have HB : Below w.heap.size w w1 := below_trans (by repeat (first | exact Below.refl _ _ | assumption | (refine Below.drew ?_) | (refine below_drewN' ?_ _) | (refine below_alloc' ?_ _) | (refine Below.setCell ?_ (by first | exact Nat.le_refl _ | (simp; done) | (simp; omega)) _))) hb0
  clear hb0
  replace hv := RdU.below hv HB
  have al : w.heap.size < w1.heap.size := World.block_lt_of_cell? w1 _ a0
  have bl : w.heap.size + 1 < w1.heap.size := World.block_lt_of_cell? w1 _ b0
  have HW := HB
  have al_1 : w.heap.size < w1.heap.size + 1 := by omega
  have al_2 : w.heap.size < w1.heap.size + 1 + 1 := by omega
  have al_3 : w.heap.size < w1.heap.size + 1 + 1 + 1 := by omega
  have al_4 : w.heap.size < w1.heap.size + 1 + 1 + 1 + 1 := by omega
  have bl_1 : w.heap.size + 1 < w1.heap.size + 1 := by omega
  have bl_2 : w.heap.size + 1 < w1.heap.size + 1 + 1 := by omega
  have bl_3 : w.heap.size + 1 < w1.heap.size + 1 + 1 + 1 := by omega
  have bl_4 : w.heap.size + 1 < w1.heap.size + 1 + 1 + 1 + 1 := by omega
  clear HB
  go_wp2_with fail
  refine Calls.mono (mv'.out _ _ ?_) ?_
  · exact RdU.below hv (by repeat (first | exact Below.refl _ _ | assumption | (refine Below.drew ?_) | (refine below_drewN' ?_ _) | (refine below_alloc' ?_ _) | (refine Below.setCell ?_ (by first | exact Nat.le_refl _ | (simp; done) | (simp; omega)) _)))
  rintro e w2 ⟨v1, rfl, hv1, hb0⟩
  have HB : Below w1.heap.size w1 w2 := below_trans (by repeat (first | exact Below.refl _ _ | assumption | (refine Below.drew ?_) | (refine below_drewN' ?_ _) | (refine below_alloc' ?_ _) | (refine Below.setCell ?_ (by first | exact Nat.le_refl _ | (simp; done) | (simp; omega)) _))) hb0
  clear hb0
  replace a0 := Below.keeps HB _ _ a0
  replace a1 := Below.keeps HB _ _ a1
  replace a2 := Below.keeps HB _ _ a2
  replace a3 := Below.keeps HB _ _ a3
  replace b0 := Below.keeps HB _ _ b0
  replace b1 := Below.keeps HB _ _ b1
  replace b2 := Below.keeps HB _ _ b2
  replace b3 := Below.keeps HB _ _ b3
  replace al := Nat.lt_of_lt_of_le al HB.size
  replace bl := Nat.lt_of_lt_of_le bl HB.size
  replace hv := RdU.below hv HB
  replace HW := below_trans HW HB
  replace al_1 : w.heap.size < w2.heap.size + 1 := by omega
  replace al_2 : w.heap.size < w2.heap.size + 1 + 1 := by omega
  replace al_3 : w.heap.size < w2.heap.size + 1 + 1 + 1 := by omega
  replace al_4 : w.heap.size < w2.heap.size + 1 + 1 + 1 + 1 := by omega
  replace bl_1 : w.heap.size + 1 < w2.heap.size + 1 := by omega
  replace bl_2 : w.heap.size + 1 < w2.heap.size + 1 + 1 := by omega
  replace bl_3 : w.heap.size + 1 < w2.heap.size + 1 + 1 + 1 := by omega
  replace bl_4 : w.heap.size + 1 < w2.heap.size + 1 + 1 + 1 + 1 := by omega
  clear HB
  obtain ⟨A1, cp1, rfl, _⟩ := hv1.slice
  clear hv1
  go_wp2_with fail
  refine Calls.mono (bk'.out _) ?_
  rintro e w3 ⟨rfl, hb0⟩
  have HB : Below w2.heap.size w2 w3 := below_trans (by repeat (first | exact Below.refl _ _ | assumption | (refine Below.drew ?_) | (refine below_drewN' ?_ _) | (refine below_alloc' ?_ _) | (refine Below.setCell ?_ (by first | exact Nat.le_refl _ | (simp; done) | (simp; omega)) _))) hb0
  clear hb0
  replace a0 := Below.keeps HB _ _ a0
  replace a1 := Below.keeps HB _ _ a1
  replace a2 := Below.keeps HB _ _ a2
  replace a3 := Below.keeps HB _ _ a3
  replace b0 := Below.keeps HB _ _ b0
  replace b1 := Below.keeps HB _ _ b1
  replace b2 := Below.keeps HB _ _ b2
  replace b3 := Below.keeps HB _ _ b3
  replace al := Nat.lt_of_lt_of_le al HB.size
  replace bl := Nat.lt_of_lt_of_le bl HB.size
  replace hv := RdU.below hv HB
  replace HW := below_trans HW HB
  replace al_1 : w.heap.size < w3.heap.size + 1 := by omega
  replace al_2 : w.heap.size < w3.heap.size + 1 + 1 := by omega
  replace al_3 : w.heap.size < w3.heap.size + 1 + 1 + 1 := by omega
  replace al_4 : w.heap.size < w3.heap.size + 1 + 1 + 1 + 1 := by omega
  replace bl_1 : w.heap.size + 1 < w3.heap.size + 1 := by omega
  replace bl_2 : w.heap.size + 1 < w3.heap.size + 1 + 1 := by omega
  replace bl_3 : w.heap.size + 1 < w3.heap.size + 1 + 1 + 1 := by omega
  replace bl_4 : w.heap.size + 1 < w3.heap.size + 1 + 1 + 1 + 1 := by omega
  clear HB
  go_wp2_with fail
  refine Calls.mono (th'.out _) ?_
  rintro e w4 ⟨rfl, hb0⟩
  have k0 : w4.cell? ⟨w3.heap.size, 0, none⟩ = some (.int .i64 bt) := Below.keeps hb0 _ _ (by simp [go_sem])
  have k1 : w4.cell? ⟨w3.heap.size, 1, none⟩ = some (.bool f) := Below.keeps hb0 _ _ (by simp [go_sem])
  have k2 : w4.cell? ⟨w3.heap.size, 2, none⟩ = some (.int .i64 bx) := Below.keeps hb0 _ _ (by simp [go_sem])
  have k3 : w4.cell? ⟨w3.heap.size, 3, none⟩ = some (.int .i64 bY) := Below.keeps hb0 _ _ (by simp [go_sem])
  have HB : Below w3.heap.size w3 w4 := below_trans (by repeat (first | exact Below.refl _ _ | assumption | (refine Below.drew ?_) | (refine below_drewN' ?_ _) | (refine below_alloc' ?_ _) | (refine Below.setCell ?_ (by first | exact Nat.le_refl _ | (simp; done) | (simp; omega)) _))) hb0
  clear hb0
  replace a0 := Below.keeps HB _ _ a0
  replace a1 := Below.keeps HB _ _ a1
  replace a2 := Below.keeps HB _ _ a2
  replace a3 := Below.keeps HB _ _ a3
  replace b0 := Below.keeps HB _ _ b0
  replace b1 := Below.keeps HB _ _ b1
  replace b2 := Below.keeps HB _ _ b2
  replace b3 := Below.keeps HB _ _ b3
  replace al := Nat.lt_of_lt_of_le al HB.size
  replace bl := Nat.lt_of_lt_of_le bl HB.size
  replace hv := RdU.below hv HB
  have kl : w3.heap.size < w4.heap.size := World.block_lt_of_cell? w4 _ k0
  replace HW := below_trans HW HB
  replace al_1 : w.heap.size < w4.heap.size + 1 := by omega
  replace al_2 : w.heap.size < w4.heap.size + 1 + 1 := by omega
  replace al_3 : w.heap.size < w4.heap.size + 1 + 1 + 1 := by omega
  replace al_4 : w.heap.size < w4.heap.size + 1 + 1 + 1 + 1 := by omega
  replace bl_1 : w.heap.size + 1 < w4.heap.size + 1 := by omega
  replace bl_2 : w.heap.size + 1 < w4.heap.size + 1 + 1 := by omega
  replace bl_3 : w.heap.size + 1 < w4.heap.size + 1 + 1 + 1 := by omega
  replace bl_4 : w.heap.size + 1 < w4.heap.size + 1 + 1 + 1 + 1 := by omega
  have kl_1 : w3.heap.size < w4.heap.size + 1 := by omega
  have kl_2 : w3.heap.size < w4.heap.size + 1 + 1 := by omega
  have kl_3 : w3.heap.size < w4.heap.size + 1 + 1 + 1 := by omega
  have kl_4 : w3.heap.size < w4.heap.size + 1 + 1 + 1 + 1 := by omega
  clear HB
  go_wp2_with fail
  refine Calls.mono (RefRight_any t x y _) ?_
  rintro e w5 ⟨rfl, rfl⟩
  rw [hr'.out]
  go_wp2_with fail
  refine Calls.mono (Right_any t f x y _) ?_
  rintro e w5 ⟨rfl, rfl⟩
  rw [hr'.out]
  go_wp2_with fail
  refine Calls.mono (Right_any bt f bx bY _) ?_
  rintro e w5 ⟨rfl, rfl⟩
  rw [hbr'.out]
  go_wp2_with fail
  refine Calls.mono (RefRight_any u c d _) ?_
  rintro e w5 ⟨rfl, rfl⟩
  rw [hs'.out]
  go_wp2_with fail
  refine Calls.mono (tu'.out _) ?_
  rintro e w5 ⟨rfl, rfl⟩
  go_wp2_with fail
  refine Calls.mono (RefRight_any 0 _ _ _) ?_
  rintro e w5 ⟨rfl, rfl⟩
  rw [hi'.out]
  go_wp2_with fail
  refine Calls.mono (Right_any tt fg _ _ _) ?_
  rintro e w5 ⟨rfl, rfl⟩
  rw [hi2'.out]
  go_wp2_with fail
  refine Calls.mono (Small_any _ xs _ ?_) ?_
  · exact RdU.below hv (by repeat (first | exact Below.refl _ _ | assumption | (refine Below.drew ?_) | (refine below_drewN' ?_ _) | (refine below_alloc' ?_ _) | (refine Below.setCell ?_ (by first | exact Nat.le_refl _ | (simp; done) | (simp; omega)) _)))
  rintro e w5 ⟨rfl, rfl⟩
  rw [hsm'.out]
  go_wp2_with fail
  refine Calls.mono (rm'.out _ _ ?_) ?_
  · exact hxs'.out ▸ RdU.below hv (by repeat (first | exact Below.refl _ _ | assumption | (refine Below.drew ?_) | (refine below_drewN' ?_ _) | (refine below_alloc' ?_ _) | (refine Below.setCell ?_ (by first | exact Nat.le_refl _ | (simp; done) | (simp; omega)) _)))
  rintro e w5 ⟨v5, rfl, hv5, hb0⟩
  have h0 : w5.cell? ⟨w4.heap.size, 0, none⟩ = some (.int .i64 tt) := Below.keeps hb0 _ _ (by simp [go_sem])
  have h1 : w5.cell? ⟨w4.heap.size, 1, none⟩ = some (.bool fg) := Below.keeps hb0 _ _ (by simp [go_sem])
  have h2 : w5.cell? ⟨w4.heap.size, 2, none⟩ = some (.int .i64 (X1 + c)) := Below.keeps hb0 _ _ (by simp [go_sem])
  have h3 : w5.cell? ⟨w4.heap.size, 3, none⟩ = some (.int .i64 (Y1 + d)) := Below.keeps hb0 _ _ (by simp [go_sem])
  have HB : Below w4.heap.size w4 w5 := below_trans (by repeat (first | exact Below.refl _ _ | assumption | (refine Below.drew ?_) | (refine below_drewN' ?_ _) | (refine below_alloc' ?_ _) | (refine Below.setCell ?_ (by first | exact Nat.le_refl _ | (simp; done) | (simp; omega)) _))) hb0
  clear hb0
  replace a0 := Below.keeps HB _ _ a0
  replace a1 := Below.keeps HB _ _ a1
  replace a2 := Below.keeps HB _ _ a2
  replace a3 := Below.keeps HB _ _ a3
  replace b0 := Below.keeps HB _ _ b0
  replace b1 := Below.keeps HB _ _ b1
  replace b2 := Below.keeps HB _ _ b2
  replace b3 := Below.keeps HB _ _ b3
  replace k0 := Below.keeps HB _ _ k0
  replace k1 := Below.keeps HB _ _ k1
  replace k2 := Below.keeps HB _ _ k2
  replace k3 := Below.keeps HB _ _ k3
  replace al := Nat.lt_of_lt_of_le al HB.size
  replace bl := Nat.lt_of_lt_of_le bl HB.size
  replace kl := Nat.lt_of_lt_of_le kl HB.size
  replace hv := RdU.below hv HB
  have hl : w4.heap.size < w5.heap.size := World.block_lt_of_cell? w5 _ h0
  replace HW := below_trans HW HB
  replace al_1 : w.heap.size < w5.heap.size + 1 := by omega
  replace al_2 : w.heap.size < w5.heap.size + 1 + 1 := by omega
  replace al_3 : w.heap.size < w5.heap.size + 1 + 1 + 1 := by omega
  replace al_4 : w.heap.size < w5.heap.size + 1 + 1 + 1 + 1 := by omega
  replace bl_1 : w.heap.size + 1 < w5.heap.size + 1 := by omega
  replace bl_2 : w.heap.size + 1 < w5.heap.size + 1 + 1 := by omega
  replace bl_3 : w.heap.size + 1 < w5.heap.size + 1 + 1 + 1 := by omega
  replace bl_4 : w.heap.size + 1 < w5.heap.size + 1 + 1 + 1 + 1 := by omega
  replace kl_1 : w3.heap.size < w5.heap.size + 1 := by omega
  replace kl_2 : w3.heap.size < w5.heap.size + 1 + 1 := by omega
  replace kl_3 : w3.heap.size < w5.heap.size + 1 + 1 + 1 := by omega
  replace kl_4 : w3.heap.size < w5.heap.size + 1 + 1 + 1 + 1 := by omega
  have hl_1 : w4.heap.size < w5.heap.size + 1 := by omega
  have hl_2 : w4.heap.size < w5.heap.size + 1 + 1 := by omega
  have hl_3 : w4.heap.size < w5.heap.size + 1 + 1 + 1 := by omega
  have hl_4 : w4.heap.size < w5.heap.size + 1 + 1 + 1 + 1 := by omega
  clear HB
  go_wp2_with fail
  go_ret
  exact ⟨rfl, below_trans HW (by repeat (first | exact Below.refl _ _ | assumption | (refine Below.drew ?_) | (refine below_drewN' ?_ _) | (refine below_alloc' ?_ _) | (refine Below.setCell ?_ (by first | exact Nat.le_refl _ | (simp; done) | (simp; omega)) _)))⟩

set_option maxRecDepth 100000 in
set_option maxHeartbeats 8000000 in
theorem moves_in_fine (t : Int) (f : Bool) (x y u : Int) (g : Bool) (c d : Int) (A : Option Addr) (n cp : Nat) (xs : List Int) (w : World) (hv : RdU w (.slice A n cp) xs) (h40 : n ≤ 40) (hr : Pl.rightB t x y = true) (bt bx bY : Int) (bk : ∀ w : World, Calls Try.prog 21 #[Mo t f x y] w fun e w' => e = .returned (.tuple #[Mo bt f bx bY, .int .i64 0]) ∧ Below w.heap.size w w') (hbr : Pl.rightB bt bx bY = true) (p q : Int) (hxs : xs = [p, q]) (hp : 0 ≤ p) (hq : 0 ≤ q) (hn : n = 2) (hsm : Pl.smallB xs = true) (X Y : Int) (mv : ∀ (w : World) (v : Value), RdU w v xs → Calls Try.prog 20 #[Mo t f x y, v] w (RetPt w ([X, Y], 0))) (hs : Pl.rightB u c d = true) (tt : Int) (fg : Bool) (X1 Y1 : Int) (hX1 : -8388608 ≤ X1 ∧ X1 ≤ 8388608) (hY1 : -8388608 ≤ Y1 ∧ Y1 ≤ 8388608) (tu : ∀ w : World, Calls Try.prog 25 #[.int .i64 u, .bool g, .int .i64 x, .int .i64 y] w fun e w' => e = .returned (.tuple #[.int .i64 X1, .int .i64 Y1]) ∧ w = w') (hi : Pl.rightB 0 (X1 + c) (Y1 + d) = true) (hi2 : Pl.rightB tt (X1 + c) (Y1 + d) = true) (th : ∀ w : World, Calls Try.prog 22 #[Mo t f x y, Mo u g c d] w fun e w' => e = .returned (.tuple #[Mo tt fg (X1 + c) (Y1 + d), .int .i64 0]) ∧ Below w.heap.size w w') (rm : ∀ (w : World) (v : Value), RdU w v [p, q] → Calls Try.prog 26 #[.int .i64 t, .bool f, .int .i64 x, .int .i64 y, v] w (RetPtB w [X, Y] true)) (bm : ∀ (w : World) (v : Value), RdU w v [X, Y] → Calls Try.prog 20 #[Mo bt f bx bY, v] w (RetPt w ([p, q], 0))) (R : List Int) (i : Int) (hR40 : R.length ≤ 40) (m1 : ∀ (w : World) (v : Value), RdU w v [X, Y] → Calls Try.prog 20 #[Mo u g c d, v] w (RetPt w (R, i))) (m2 : ∀ (w : World) (v : Value), RdU w v xs → Calls Try.prog 20 #[Mo tt fg (X1 + c) (Y1 + d), v] w (RetPt w (R, i))) :
    Calls Try.prog 4 #[Mo t f x y, Mo u g c d, .slice A n cp] w fun e w' => e = .returned (.bool true) ∧ Below w.heap.size w w' := by
  have hR := Pl.rightB_iff.1 hr
  have hS := Pl.rightB_iff.1 hs
  have mv' := Lib.hid mv
  have th' := Lib.hid th
  have bk' := Lib.hid bk
  have hbr' := Lib.hid hbr
  have hr' := Lib.hid hr
  have hs' := Lib.hid hs
  have tu' := Lib.hid tu
  have hi' := Lib.hid hi
  have hi2' := Lib.hid hi2
  have rm' := Lib.hid rm
  have bm' := Lib.hid bm
  have m1' := Lib.hid m1
  have m2' := Lib.hid m2
  have hR40' := Lib.hid hR40
  have hxs' := Lib.hid hxs
  have hsm' := Lib.hid hsm
  clear mv th bk hbr hr hs tu hi hi2 rm bm m1 m2 hR40 hxs hsm
  subst hn
  go_enter Try.func4, Try.ntmps4
  go_wp2_with fail
  refine Calls.mono (awake27 _) ?_
  rintro e w1 ⟨rfl, hb0⟩
  have a0 : w1.cell? ⟨w.heap.size, 0, none⟩ = some (.int .i64 t) := Below.keeps hb0 _ _ (by simp [go_sem])
  have a1 : w1.cell? ⟨w.heap.size, 1, none⟩ = some (.bool f) := Below.keeps hb0 _ _ (by simp [go_sem])
  have a2 : w1.cell? ⟨w.heap.size, 2, none⟩ = some (.int .i64 x) := Below.keeps hb0 _ _ (by simp [go_sem])
  have a3 : w1.cell? ⟨w.heap.size, 3, none⟩ = some (.int .i64 y) := Below.keeps hb0 _ _ (by simp [go_sem])
  have b0 : w1.cell? ⟨w.heap.size + 1, 0, none⟩ = some (.int .i64 u) := Below.keeps hb0 _ _ (by simp [go_sem])
  have b1 : w1.cell? ⟨w.heap.size + 1, 1, none⟩ = some (.bool g) := Below.keeps hb0 _ _ (by simp [go_sem])
  have b2 : w1.cell? ⟨w.heap.size + 1, 2, none⟩ = some (.int .i64 c) := Below.keeps hb0 _ _ (by simp [go_sem])
  have b3 : w1.cell? ⟨w.heap.size + 1, 3, none⟩ = some (.int .i64 d) := Below.keeps hb0 _ _ (by simp [go_sem])
  have HB : Below w.heap.size w w1 := below_trans (by repeat (first | exact Below.refl _ _ | assumption | (refine Below.drew ?_) | (refine below_drewN' ?_ _) | (refine below_alloc' ?_ _) | (refine Below.setCell ?_ (by first | exact Nat.le_refl _ | (simp; done) | (simp; omega)) _))) hb0
  clear hb0
  replace hv := RdU.below hv HB
  have al : w.heap.size < w1.heap.size := World.block_lt_of_cell? w1 _ a0
  have bl : w.heap.size + 1 < w1.heap.size := World.block_lt_of_cell? w1 _ b0
  have HW := HB
  have al_1 : w.heap.size < w1.heap.size + 1 := by omega
  have al_2 : w.heap.size < w1.heap.size + 1 + 1 := by omega
  have al_3 : w.heap.size < w1.heap.size + 1 + 1 + 1 := by omega
  have al_4 : w.heap.size < w1.heap.size + 1 + 1 + 1 + 1 := by omega
  have bl_1 : w.heap.size + 1 < w1.heap.size + 1 := by omega
  have bl_2 : w.heap.size + 1 < w1.heap.size + 1 + 1 := by omega
  have bl_3 : w.heap.size + 1 < w1.heap.size + 1 + 1 + 1 := by omega
  have bl_4 : w.heap.size + 1 < w1.heap.size + 1 + 1 + 1 + 1 := by omega
  clear HB
  go_wp2_with fail
  refine Calls.mono (mv'.out _ _ ?_) ?_
  · exact RdU.below hv (by repeat (first | exact Below.refl _ _ | assumption | (refine Below.drew ?_) | (refine below_drewN' ?_ _) | (refine below_alloc' ?_ _) | (refine Below.setCell ?_ (by first | exact Nat.le_refl _ | (simp; done) | (simp; omega)) _)))
  rintro e w2 ⟨v1, rfl, hv1, hb0⟩
  have HB : Below w1.heap.size w1 w2 := below_trans (by repeat (first | exact Below.refl _ _ | assumption | (refine Below.drew ?_) | (refine below_drewN' ?_ _) | (refine below_alloc' ?_ _) | (refine Below.setCell ?_ (by first | exact Nat.le_refl _ | (simp; done) | (simp; omega)) _))) hb0
  clear hb0
  replace a0 := Below.keeps HB _ _ a0
  replace a1 := Below.keeps HB _ _ a1
  replace a2 := Below.keeps HB _ _ a2
  replace a3 := Below.keeps HB _ _ a3
  replace b0 := Below.keeps HB _ _ b0
  replace b1 := Below.keeps HB _ _ b1
  replace b2 := Below.keeps HB _ _ b2
  replace b3 := Below.keeps HB _ _ b3
  replace al := Nat.lt_of_lt_of_le al HB.size
  replace bl := Nat.lt_of_lt_of_le bl HB.size
  replace hv := RdU.below hv HB
  replace HW := below_trans HW HB
  replace al_1 : w.heap.size < w2.heap.size + 1 := by omega
  replace al_2 : w.heap.size < w2.heap.size + 1 + 1 := by omega
  replace al_3 : w.heap.size < w2.heap.size + 1 + 1 + 1 := by omega
  replace al_4 : w.heap.size < w2.heap.size + 1 + 1 + 1 + 1 := by omega
  replace bl_1 : w.heap.size + 1 < w2.heap.size + 1 := by omega
  replace bl_2 : w.heap.size + 1 < w2.heap.size + 1 + 1 := by omega
  replace bl_3 : w.heap.size + 1 < w2.heap.size + 1 + 1 + 1 := by omega
  replace bl_4 : w.heap.size + 1 < w2.heap.size + 1 + 1 + 1 + 1 := by omega
  clear HB
  obtain ⟨A1, cp1, rfl, _⟩ := hv1.slice
  go_wp2_with fail
  refine Calls.mono (bk'.out _) ?_
  rintro e w3 ⟨rfl, hb0⟩
  have HB : Below w2.heap.size w2 w3 := below_trans (by repeat (first | exact Below.refl _ _ | assumption | (refine Below.drew ?_) | (refine below_drewN' ?_ _) | (refine below_alloc' ?_ _) | (refine Below.setCell ?_ (by first | exact Nat.le_refl _ | (simp; done) | (simp; omega)) _))) hb0
  clear hb0
  replace a0 := Below.keeps HB _ _ a0
  replace a1 := Below.keeps HB _ _ a1
  replace a2 := Below.keeps HB _ _ a2
  replace a3 := Below.keeps HB _ _ a3
  replace b0 := Below.keeps HB _ _ b0
  replace b1 := Below.keeps HB _ _ b1
  replace b2 := Below.keeps HB _ _ b2
  replace b3 := Below.keeps HB _ _ b3
  replace al := Nat.lt_of_lt_of_le al HB.size
  replace bl := Nat.lt_of_lt_of_le bl HB.size
  replace hv := RdU.below hv HB
  replace hv1 := RdU.below hv1 HB
  replace HW := below_trans HW HB
  replace al_1 : w.heap.size < w3.heap.size + 1 := by omega
  replace al_2 : w.heap.size < w3.heap.size + 1 + 1 := by omega
  replace al_3 : w.heap.size < w3.heap.size + 1 + 1 + 1 := by omega
  replace al_4 : w.heap.size < w3.heap.size + 1 + 1 + 1 + 1 := by omega
  replace bl_1 : w.heap.size + 1 < w3.heap.size + 1 := by omega
  replace bl_2 : w.heap.size + 1 < w3.heap.size + 1 + 1 := by omega
  replace bl_3 : w.heap.size + 1 < w3.heap.size + 1 + 1 + 1 := by omega
  replace bl_4 : w.heap.size + 1 < w3.heap.size + 1 + 1 + 1 + 1 := by omega
  clear HB
  go_wp2_with fail
  refine Calls.mono (th'.out _) ?_
  rintro e w4 ⟨rfl, hb0⟩
  have k0 : w4.cell? ⟨w3.heap.size, 0, none⟩ = some (.int .i64 bt) := Below.keeps hb0 _ _ (by simp [go_sem])
  have k1 : w4.cell? ⟨w3.heap.size, 1, none⟩ = some (.bool f) := Below.keeps hb0 _ _ (by simp [go_sem])
  have k2 : w4.cell? ⟨w3.heap.size, 2, none⟩ = some (.int .i64 bx) := Below.keeps hb0 _ _ (by simp [go_sem])
  have k3 : w4.cell? ⟨w3.heap.size, 3, none⟩ = some (.int .i64 bY) := Below.keeps hb0 _ _ (by simp [go_sem])
  have HB : Below w3.heap.size w3 w4 := below_trans (by repeat (first | exact Below.refl _ _ | assumption | (refine Below.drew ?_) | (refine below_drewN' ?_ _) | (refine below_alloc' ?_ _) | (refine Below.setCell ?_ (by first | exact Nat.le_refl _ | (simp; done) | (simp; omega)) _))) hb0
  clear hb0
  replace a0 := Below.keeps HB _ _ a0
  replace a1 := Below.keeps HB _ _ a1
  replace a2 := Below.keeps HB _ _ a2
  replace a3 := Below.keeps HB _ _ a3
  replace b0 := Below.keeps HB _ _ b0
  replace b1 := Below.keeps HB _ _ b1
  replace b2 := Below.keeps HB _ _ b2
  replace b3 := Below.keeps HB _ _ b3
  replace al := Nat.lt_of_lt_of_le al HB.size
  replace bl := Nat.lt_of_lt_of_le bl HB.size
  replace hv := RdU.below hv HB
  replace hv1 := RdU.below hv1 HB
  have kl : w3.heap.size < w4.heap.size := World.block_lt_of_cell? w4 _ k0
  replace HW := below_trans HW HB
  replace al_1 : w.heap.size < w4.heap.size + 1 := by omega
  replace al_2 : w.heap.size < w4.heap.size + 1 + 1 := by omega
  replace al_3 : w.heap.size < w4.heap.size + 1 + 1 + 1 := by omega
  replace al_4 : w.heap.size < w4.heap.size + 1 + 1 + 1 + 1 := by omega
  replace bl_1 : w.heap.size + 1 < w4.heap.size + 1 := by omega
  replace bl_2 : w.heap.size + 1 < w4.heap.size + 1 + 1 := by omega
  replace bl_3 : w.heap.size + 1 < w4.heap.size + 1 + 1 + 1 := by omega
  replace bl_4 : w.heap.size + 1 < w4.heap.size + 1 + 1 + 1 + 1 := by omega
  have kl_1 : w3.heap.size < w4.heap.size + 1 := by omega
  have kl_2 : w3.heap.size < w4.heap.size + 1 + 1 := by omega
  have kl_3 : w3.heap.size < w4.heap.size + 1 + 1 + 1 := by omega
  have kl_4 : w3.heap.size < w4.heap.size + 1 + 1 + 1 + 1 := by omega
  clear HB
  go_wp2_with fail
  refine Calls.mono (RefRight_any t x y _) ?_
  rintro e w5 ⟨rfl, rfl⟩
  rw [hr'.out]
  go_wp2_with fail
  refine Calls.mono (Right_any t f x y _) ?_
  rintro e w5 ⟨rfl, rfl⟩
  rw [hr'.out]
  go_wp2_with fail
  refine Calls.mono (Right_any bt f bx bY _) ?_
  rintro e w5 ⟨rfl, rfl⟩
  rw [hbr'.out]
  go_wp2_with fail
  refine Calls.mono (RefRight_any u c d _) ?_
  rintro e w5 ⟨rfl, rfl⟩
  rw [hs'.out]
  go_wp2_with fail
  refine Calls.mono (tu'.out _) ?_
  rintro e w5 ⟨rfl, rfl⟩
  go_wp2_with fail
  refine Calls.mono (RefRight_any 0 _ _ _) ?_
  rintro e w5 ⟨rfl, rfl⟩
  rw [hi'.out]
  go_wp2_with fail
  refine Calls.mono (Right_any tt fg _ _ _) ?_
  rintro e w5 ⟨rfl, rfl⟩
  rw [hi2'.out]
  go_wp2_with fail
  refine Calls.mono (Small_any _ xs _ ?_) ?_
  · exact RdU.below hv (by repeat (first | exact Below.refl _ _ | assumption | (refine Below.drew ?_) | (refine below_drewN' ?_ _) | (refine below_alloc' ?_ _) | (refine Below.setCell ?_ (by first | exact Nat.le_refl _ | (simp; done) | (simp; omega)) _)))
  rintro e w5 ⟨rfl, rfl⟩
  rw [hsm'.out]
  go_wp2_with fail
  refine Calls.mono (rm'.out _ _ ?_) ?_
  · exact hxs'.out ▸ RdU.below hv (by repeat (first | exact Below.refl _ _ | assumption | (refine Below.drew ?_) | (refine below_drewN' ?_ _) | (refine below_alloc' ?_ _) | (refine Below.setCell ?_ (by first | exact Nat.le_refl _ | (simp; done) | (simp; omega)) _)))
  rintro e w5 ⟨v5, rfl, hv5, hb0⟩
  have h0 : w5.cell? ⟨w4.heap.size, 0, none⟩ = some (.int .i64 tt) := Below.keeps hb0 _ _ (by simp [go_sem])
  have h1 : w5.cell? ⟨w4.heap.size, 1, none⟩ = some (.bool fg) := Below.keeps hb0 _ _ (by simp [go_sem])
  have h2 : w5.cell? ⟨w4.heap.size, 2, none⟩ = some (.int .i64 (X1 + c)) := Below.keeps hb0 _ _ (by simp [go_sem])
  have h3 : w5.cell? ⟨w4.heap.size, 3, none⟩ = some (.int .i64 (Y1 + d)) := Below.keeps hb0 _ _ (by simp [go_sem])
  have HB : Below w4.heap.size w4 w5 := below_trans (by repeat (first | exact Below.refl _ _ | assumption | (refine Below.drew ?_) | (refine below_drewN' ?_ _) | (refine below_alloc' ?_ _) | (refine Below.setCell ?_ (by first | exact Nat.le_refl _ | (simp; done) | (simp; omega)) _))) hb0
  clear hb0
  replace a0 := Below.keeps HB _ _ a0
  replace a1 := Below.keeps HB _ _ a1
  replace a2 := Below.keeps HB _ _ a2
  replace a3 := Below.keeps HB _ _ a3
  replace b0 := Below.keeps HB _ _ b0
  replace b1 := Below.keeps HB _ _ b1
  replace b2 := Below.keeps HB _ _ b2
  replace b3 := Below.keeps HB _ _ b3
  replace k0 := Below.keeps HB _ _ k0
  replace k1 := Below.keeps HB _ _ k1
  replace k2 := Below.keeps HB _ _ k2
  replace k3 := Below.keeps HB _ _ k3
  replace al := Nat.lt_of_lt_of_le al HB.size
  replace bl := Nat.lt_of_lt_of_le bl HB.size
  replace kl := Nat.lt_of_lt_of_le kl HB.size
  replace hv := RdU.below hv HB
  replace hv1 := RdU.below hv1 HB
  have hl : w4.heap.size < w5.heap.size := World.block_lt_of_cell? w5 _ h0
  replace HW := below_trans HW HB
  replace al_1 : w.heap.size < w5.heap.size + 1 := by omega
  replace al_2 : w.heap.size < w5.heap.size + 1 + 1 := by omega
  replace al_3 : w.heap.size < w5.heap.size + 1 + 1 + 1 := by omega
  replace al_4 : w.heap.size < w5.heap.size + 1 + 1 + 1 + 1 := by omega
  replace bl_1 : w.heap.size + 1 < w5.heap.size + 1 := by omega
  replace bl_2 : w.heap.size + 1 < w5.heap.size + 1 + 1 := by omega
  replace bl_3 : w.heap.size + 1 < w5.heap.size + 1 + 1 + 1 := by omega
  replace bl_4 : w.heap.size + 1 < w5.heap.size + 1 + 1 + 1 + 1 := by omega
  replace kl_1 : w3.heap.size < w5.heap.size + 1 := by omega
  replace kl_2 : w3.heap.size < w5.heap.size + 1 + 1 := by omega
  replace kl_3 : w3.heap.size < w5.heap.size + 1 + 1 + 1 := by omega
  replace kl_4 : w3.heap.size < w5.heap.size + 1 + 1 + 1 + 1 := by omega
  have hl_1 : w4.heap.size < w5.heap.size + 1 := by omega
  have hl_2 : w4.heap.size < w5.heap.size + 1 + 1 := by omega
  have hl_3 : w4.heap.size < w5.heap.size + 1 + 1 + 1 := by omega
  have hl_4 : w4.heap.size < w5.heap.size + 1 + 1 + 1 + 1 := by omega
  clear HB
  go_wp2_with fail
  refine Calls.mono (bm'.out _ _ ?_) ?_
  · exact RdU.below hv1 (by repeat (first | exact Below.refl _ _ | assumption | (refine Below.drew ?_) | (refine below_drewN' ?_ _) | (refine below_alloc' ?_ _) | (refine Below.setCell ?_ (by first | exact Nat.le_refl _ | (simp; done) | (simp; omega)) _)))
  rintro e w6 ⟨v6, rfl, hv6, hb0⟩
  have HB : Below w5.heap.size w5 w6 := below_trans (by repeat (first | exact Below.refl _ _ | assumption | (refine Below.drew ?_) | (refine below_drewN' ?_ _) | (refine below_alloc' ?_ _) | (refine Below.setCell ?_ (by first | exact Nat.le_refl _ | (simp; done) | (simp; omega)) _))) hb0
  clear hb0
  replace a0 := Below.keeps HB _ _ a0
  replace a1 := Below.keeps HB _ _ a1
  replace a2 := Below.keeps HB _ _ a2
  replace a3 := Below.keeps HB _ _ a3
  replace b0 := Below.keeps HB _ _ b0
  replace b1 := Below.keeps HB _ _ b1
  replace b2 := Below.keeps HB _ _ b2
  replace b3 := Below.keeps HB _ _ b3
  replace k0 := Below.keeps HB _ _ k0
  replace k1 := Below.keeps HB _ _ k1
  replace k2 := Below.keeps HB _ _ k2
  replace k3 := Below.keeps HB _ _ k3
  replace h0 := Below.keeps HB _ _ h0
  replace h1 := Below.keeps HB _ _ h1
  replace h2 := Below.keeps HB _ _ h2
  replace h3 := Below.keeps HB _ _ h3
  replace al := Nat.lt_of_lt_of_le al HB.size
  replace bl := Nat.lt_of_lt_of_le bl HB.size
  replace kl := Nat.lt_of_lt_of_le kl HB.size
  replace hl := Nat.lt_of_lt_of_le hl HB.size
  replace hv := RdU.below hv HB
  replace hv1 := RdU.below hv1 HB
  replace hv5 := RdU.below hv5 HB
  replace HW := below_trans HW HB
  replace al_1 : w.heap.size < w6.heap.size + 1 := by omega
  replace al_2 : w.heap.size < w6.heap.size + 1 + 1 := by omega
  replace al_3 : w.heap.size < w6.heap.size + 1 + 1 + 1 := by omega
  replace al_4 : w.heap.size < w6.heap.size + 1 + 1 + 1 + 1 := by omega
  replace bl_1 : w.heap.size + 1 < w6.heap.size + 1 := by omega
  replace bl_2 : w.heap.size + 1 < w6.heap.size + 1 + 1 := by omega
  replace bl_3 : w.heap.size + 1 < w6.heap.size + 1 + 1 + 1 := by omega
  replace bl_4 : w.heap.size + 1 < w6.heap.size + 1 + 1 + 1 + 1 := by omega
  replace kl_1 : w3.heap.size < w6.heap.size + 1 := by omega
  replace kl_2 : w3.heap.size < w6.heap.size + 1 + 1 := by omega
  replace kl_3 : w3.heap.size < w6.heap.size + 1 + 1 + 1 := by omega
  replace kl_4 : w3.heap.size < w6.heap.size + 1 + 1 + 1 + 1 := by omega
  replace hl_1 : w4.heap.size < w6.heap.size + 1 := by omega
  replace hl_2 : w4.heap.size < w6.heap.size + 1 + 1 := by omega
  replace hl_3 : w4.heap.size < w6.heap.size + 1 + 1 + 1 := by omega
  replace hl_4 : w4.heap.size < w6.heap.size + 1 + 1 + 1 + 1 := by omega
  clear HB
  go_wp2_with fail
  refine Calls.mono (Same_any _ _ [X, Y] [X, Y] _ ?_ ?_ (by simp)) ?_
  · exact RdU.below hv1 (by repeat (first | exact Below.refl _ _ | assumption | (refine Below.drew ?_) | (refine below_drewN' ?_ _) | (refine below_alloc' ?_ _) | (refine Below.setCell ?_ (by first | exact Nat.le_refl _ | (simp; done) | (simp; omega)) _)))
  · exact RdU.below hv5 (by repeat (first | exact Below.refl _ _ | assumption | (refine Below.drew ?_) | (refine below_drewN' ?_ _) | (refine below_alloc' ?_ _) | (refine Below.setCell ?_ (by first | exact Nat.le_refl _ | (simp; done) | (simp; omega)) _)))
  rintro e w7 ⟨rfl, n7, rfl⟩
  rw [decide_eq_true (rfl : [X, Y] = [X, Y])]
  go_wp2_with fail
  refine Calls.mono (Same_any _ _ [p, q] [p, q] _ ?_ ?_ (by simp)) ?_
  · exact RdU.below hv6 (by repeat (first | exact Below.refl _ _ | assumption | (refine Below.drew ?_) | (refine below_drewN' ?_ _) | (refine below_alloc' ?_ _) | (refine Below.setCell ?_ (by first | exact Nat.le_refl _ | (simp; done) | (simp; omega)) _)))
  · exact hxs'.out ▸ RdU.below hv (by repeat (first | exact Below.refl _ _ | assumption | (refine Below.drew ?_) | (refine below_drewN' ?_ _) | (refine below_alloc' ?_ _) | (refine Below.setCell ?_ (by first | exact Nat.le_refl _ | (simp; done) | (simp; omega)) _)))
  rintro e w7 ⟨rfl, n8, rfl⟩
  rw [decide_eq_true (rfl : [p, q] = [p, q])]
  go_wp2_with fail
  refine Calls.mono (m1'.out _ _ ?_) ?_
  · exact RdU.below hv1 (by repeat (first | exact Below.refl _ _ | assumption | (refine Below.drew ?_) | (refine below_drewN' ?_ _) | (refine below_alloc' ?_ _) | (refine Below.setCell ?_ (by first | exact Nat.le_refl _ | (simp; done) | (simp; omega)) _)))
  rintro e w7 ⟨v8, rfl, hv8, hb0⟩
  have HB : Below w6.heap.size w6 w7 := below_trans (by repeat (first | exact Below.refl _ _ | assumption | (refine Below.drew ?_) | (refine below_drewN' ?_ _) | (refine below_alloc' ?_ _) | (refine Below.setCell ?_ (by first | exact Nat.le_refl _ | (simp; done) | (simp; omega)) _))) hb0
  clear hb0
  replace a0 := Below.keeps HB _ _ a0
  replace a1 := Below.keeps HB _ _ a1
  replace a2 := Below.keeps HB _ _ a2
  replace a3 := Below.keeps HB _ _ a3
  replace b0 := Below.keeps HB _ _ b0
  replace b1 := Below.keeps HB _ _ b1
  replace b2 := Below.keeps HB _ _ b2
  replace b3 := Below.keeps HB _ _ b3
  replace k0 := Below.keeps HB _ _ k0
  replace k1 := Below.keeps HB _ _ k1
  replace k2 := Below.keeps HB _ _ k2
  replace k3 := Below.keeps HB _ _ k3
  replace h0 := Below.keeps HB _ _ h0
  replace h1 := Below.keeps HB _ _ h1
  replace h2 := Below.keeps HB _ _ h2
  replace h3 := Below.keeps HB _ _ h3
  replace al := Nat.lt_of_lt_of_le al HB.size
  replace bl := Nat.lt_of_lt_of_le bl HB.size
  replace kl := Nat.lt_of_lt_of_le kl HB.size
  replace hl := Nat.lt_of_lt_of_le hl HB.size
  replace hv := RdU.below hv HB
  replace hv1 := RdU.below hv1 HB
  replace hv5 := RdU.below hv5 HB
  replace hv6 := RdU.below hv6 HB
  replace HW := below_trans HW HB
  replace al_1 : w.heap.size < w7.heap.size + 1 := by omega
  replace al_2 : w.heap.size < w7.heap.size + 1 + 1 := by omega
  replace al_3 : w.heap.size < w7.heap.size + 1 + 1 + 1 := by omega
  replace al_4 : w.heap.size < w7.heap.size + 1 + 1 + 1 + 1 := by omega
  replace bl_1 : w.heap.size + 1 < w7.heap.size + 1 := by omega
  replace bl_2 : w.heap.size + 1 < w7.heap.size + 1 + 1 := by omega
  replace bl_3 : w.heap.size + 1 < w7.heap.size + 1 + 1 + 1 := by omega
  replace bl_4 : w.heap.size + 1 < w7.heap.size + 1 + 1 + 1 + 1 := by omega
  replace kl_1 : w3.heap.size < w7.heap.size + 1 := by omega
  replace kl_2 : w3.heap.size < w7.heap.size + 1 + 1 := by omega
  replace kl_3 : w3.heap.size < w7.heap.size + 1 + 1 + 1 := by omega
  replace kl_4 : w3.heap.size < w7.heap.size + 1 + 1 + 1 + 1 := by omega
  replace hl_1 : w4.heap.size < w7.heap.size + 1 := by omega
  replace hl_2 : w4.heap.size < w7.heap.size + 1 + 1 := by omega
  replace hl_3 : w4.heap.size < w7.heap.size + 1 + 1 + 1 := by omega
  replace hl_4 : w4.heap.size < w7.heap.size + 1 + 1 + 1 + 1 := by omega
  clear HB
  go_wp2_with fail
  refine Calls.mono (m2'.out _ _ ?_) ?_
  · exact RdU.below hv (by repeat (first | exact Below.refl _ _ | assumption | (refine Below.drew ?_) | (refine below_drewN' ?_ _) | (refine below_alloc' ?_ _) | (refine Below.setCell ?_ (by first | exact Nat.le_refl _ | (simp; done) | (simp; omega)) _)))
  rintro e w8 ⟨v9, rfl, hv9, hb0⟩
  have HB : Below w7.heap.size w7 w8 := below_trans (by repeat (first | exact Below.refl _ _ | assumption | (refine Below.drew ?_) | (refine below_drewN' ?_ _) | (refine below_alloc' ?_ _) | (refine Below.setCell ?_ (by first | exact Nat.le_refl _ | (simp; done) | (simp; omega)) _))) hb0
  clear hb0
  replace a0 := Below.keeps HB _ _ a0
  replace a1 := Below.keeps HB _ _ a1
  replace a2 := Below.keeps HB _ _ a2
  replace a3 := Below.keeps HB _ _ a3
  replace b0 := Below.keeps HB _ _ b0
  replace b1 := Below.keeps HB _ _ b1
  replace b2 := Below.keeps HB _ _ b2
  replace b3 := Below.keeps HB _ _ b3
  replace k0 := Below.keeps HB _ _ k0
  replace k1 := Below.keeps HB _ _ k1
  replace k2 := Below.keeps HB _ _ k2
  replace k3 := Below.keeps HB _ _ k3
  replace h0 := Below.keeps HB _ _ h0
  replace h1 := Below.keeps HB _ _ h1
  replace h2 := Below.keeps HB _ _ h2
  replace h3 := Below.keeps HB _ _ h3
  replace al := Nat.lt_of_lt_of_le al HB.size
  replace bl := Nat.lt_of_lt_of_le bl HB.size
  replace kl := Nat.lt_of_lt_of_le kl HB.size
  replace hl := Nat.lt_of_lt_of_le hl HB.size
  replace hv := RdU.below hv HB
  replace hv1 := RdU.below hv1 HB
  replace hv5 := RdU.below hv5 HB
  replace hv6 := RdU.below hv6 HB
  replace hv8 := RdU.below hv8 HB
  replace HW := below_trans HW HB
  replace al_1 : w.heap.size < w8.heap.size + 1 := by omega
  replace al_2 : w.heap.size < w8.heap.size + 1 + 1 := by omega
  replace al_3 : w.heap.size < w8.heap.size + 1 + 1 + 1 := by omega
  replace al_4 : w.heap.size < w8.heap.size + 1 + 1 + 1 + 1 := by omega
  replace bl_1 : w.heap.size + 1 < w8.heap.size + 1 := by omega
  replace bl_2 : w.heap.size + 1 < w8.heap.size + 1 + 1 := by omega
  replace bl_3 : w.heap.size + 1 < w8.heap.size + 1 + 1 + 1 := by omega
  replace bl_4 : w.heap.size + 1 < w8.heap.size + 1 + 1 + 1 + 1 := by omega
  replace kl_1 : w3.heap.size < w8.heap.size + 1 := by omega
  replace kl_2 : w3.heap.size < w8.heap.size + 1 + 1 := by omega
  replace kl_3 : w3.heap.size < w8.heap.size + 1 + 1 + 1 := by omega
  replace kl_4 : w3.heap.size < w8.heap.size + 1 + 1 + 1 + 1 := by omega
  replace hl_1 : w4.heap.size < w8.heap.size + 1 := by omega
  replace hl_2 : w4.heap.size < w8.heap.size + 1 + 1 := by omega
  replace hl_3 : w4.heap.size < w8.heap.size + 1 + 1 + 1 := by omega
  replace hl_4 : w4.heap.size < w8.heap.size + 1 + 1 + 1 + 1 := by omega
  clear HB
  go_wp2_with fail
  refine Calls.mono (Same_any _ _ R R _ ?_ ?_ (by have := hR40'.out; omega)) ?_
  · exact RdU.below hv8 (by repeat (first | exact Below.refl _ _ | assumption | (refine Below.drew ?_) | (refine below_drewN' ?_ _) | (refine below_alloc' ?_ _) | (refine Below.setCell ?_ (by first | exact Nat.le_refl _ | (simp; done) | (simp; omega)) _)))
  · exact RdU.below hv9 (by repeat (first | exact Below.refl _ _ | assumption | (refine Below.drew ?_) | (refine below_drewN' ?_ _) | (refine below_alloc' ?_ _) | (refine Below.setCell ?_ (by first | exact Nat.le_refl _ | (simp; done) | (simp; omega)) _)))
  rintro e w7 ⟨rfl, n9, rfl⟩
  rw [decide_eq_true (rfl : R = R)]
  go_wp2_with fail
  go_ret
  exact ⟨rfl, below_trans HW (by repeat (first | exact Below.refl _ _ | assumption | (refine Below.drew ?_) | (refine below_drewN' ?_ _) | (refine below_alloc' ?_ _) | (refine Below.setCell ?_ (by first | exact Nat.le_refl _ | (simp; done) | (simp; omega)) _)))⟩

end Go.Proofs.Ytlmgabhdeeehmaa
