/-
  The walk of pantilelaw13.awake.
-/
import Derived.Test.YtmeffkgdmimpdaaEditA
import Derived.Test.YtmeffkgdmimpdaaSameE
namespace Go.Proofs.Ytmeffkgdmimpdaa
open Go.RowKit
set_option linter.unusedVariables false
set_option linter.unusedSimpArgs false

theorem RdC.one {w : World} {b cc : Nat} {c : Ch} (h : ChAt w b 0 c) : RdC w (.slice (some ⟨b, 0, none⟩) 1 cc) [c] :=
  ⟨_, cc, rfl, fun _ => ⟨b, 0, rfl, fun j hj => by
    obtain rfl : j = 0 := by simp at hj; omega
    simpa using h⟩⟩
theorem CapOk.one (b : Nat) : CapOk (.slice (some ⟨b, 0, none⟩) 1 1) := ⟨_, 1, 1, rfl, Nat.le_refl _, by simp [maxLen], fun _ => ⟨_, _, rfl⟩⟩
def xp4 : List Nat := [4, 0]
def xa : List Ch := [⟨xp4, false, true, 0, 3⟩]
def xb : List Ch := [⟨xp4, true, true, 3, 5⟩]
def xx : List Ch := [⟨xp4, false, true, 0, 5⟩]
def xc : List Ch := [⟨xp4, true, false, 5, 0⟩]
theorem xcmp : Zb.cmp xp4 xp4 = 0 := (cmp_zero _ _).2 rfl
theorem pairs_one (p q : List Nat) (h1 h2 h3 h4 : Bool) (a b c d : Nat) (h : Zb.cmp p q = 0) : pairs [⟨p, h1, h2, a, b⟩] [⟨q, h3, h4, c, d⟩] = [(some ⟨p, h1, h2, a, b⟩, some ⟨q, h3, h4, c, d⟩)] := by
  unfold pairs
  simp only [List.length_cons, List.length_nil, pairsL, h]
  rfl
theorem xthen1 : thenL xa xb = some xx := by
  unfold thenL xa xb
  rw [pairs_one _ _ _ _ _ _ _ _ _ _ xcmp]
  rfl
theorem xthen2 : thenL xx xc = some [] := by
  unfold thenL xx xc
  rw [pairs_one _ _ _ _ _ _ _ _ _ _ xcmp]
  rfl
theorem xright : rightL 2 xa = true ∧ rightL 2 xb = true ∧ rightL 2 xx = true ∧ rightL 2 xc = true := ⟨rfl, rfl, rfl, rfl⟩
theorem xok (h1 h2 : Bool) (a b : Nat) : OkC [⟨xp4, h1, h2, a, b⟩] := by
  intro c hc x hx
  simp only [List.mem_singleton] at hc
  subst hc
  simp only [xp4, List.mem_cons, List.not_mem_nil, or_false] at hx
  rcases hx with rfl | rfl <;> decide
theorem xrd {w : World} {g : Nat} (h0 : w.cell? ⟨g, 0, none⟩ = some (.int .u64 4)) (h1 : w.cell? ⟨g, 1, none⟩ = some (.int .u64 0)) : RdU w (.slice (some ⟨g, 0, none⟩) 2 2) (pti xp4) := RdU.two h0 h1

set_option maxRecDepth 8000 in
set_option maxHeartbeats 2000000 in
theorem awake_any (w : World) : Calls Try.prog 4 #[] w fun e w' => e = .returned (.bool true) ∧ Below w.heap.size w w' := by
  have H1 := Lib.hid (fun (va vb : Value) (w : World) (ha : RdC w va xa ∧ CapOk va) (hb : RdC w vb xb ∧ CapOk vb) => eThen_any 2 xa xb va vb w ha hb (by decide) (by decide) (xok _ _ _ _) (xok _ _ _ _))
  rw [xright.1, xright.2.1, xthen1] at H1
  have H2 := Lib.hid (fun (va vb : Value) (w : World) (ha : RdC w va xx ∧ CapOk va) (hb : RdC w vb xc ∧ CapOk vb) => eThen_any 2 xx xc va vb w ha hb (by decide) (by decide) (xok _ _ _ _) (xok _ _ _ _))
  rw [xright.2.2.1, xright.2.2.2, xthen2] at H2
  have H3 := Lib.hid (fun (va vb : Value) (w : World) (ha : RdC w va xx) (hb : RdC w vb xx) => rSameC_any xx xx va vb w ha hb (by decide) (by intro c hc; simp only [xx, List.mem_singleton] at hc; subst hc; decide))
  rw [eqL_true rfl] at H3
  go_enter Try.func4, Try.ntmps4
  go_wp2_with fail
  refine (H1.out _ _ _ ⟨RdC.one ?_, CapOk.one _⟩ ⟨RdC.one ?_, CapOk.one _⟩).mono ?_
  · refine ⟨.slice (some ⟨w.heap.size, 0, none⟩) 2 2, ?_, xrd ?_ ?_, ?_, ?_, ?_, ?_⟩ <;> simp [go_sem]
  · refine ⟨.slice (some ⟨w.heap.size, 0, none⟩) 2 2, ?_, xrd ?_ ?_, ?_, ?_, ?_, ?_⟩ <;> simp [go_sem]
  rintro e w1 ⟨⟨A, c, rfl, hr1, hc1⟩, hb1⟩
  have HR1 := Lib.hid (And.intro hr1 hc1)
  have HB1 := Lib.hid (show Below w.heap.size w w1 from (show Below w.heap.size w _ from below_alloc' (below_alloc' (below_alloc' (Below.refl _ _) _) _) _).trans (hb1.mono (by simp; omega)))
  have k0 : w1.cell? ⟨w.heap.size, 0, none⟩ = some (.int .u64 4) := Below.keeps hb1 _ _ (by simp [go_sem])
  have k1 : w1.cell? ⟨w.heap.size, 1, none⟩ = some (.int .u64 0) := Below.keeps hb1 _ _ (by simp [go_sem])
  have hl1 : w.heap.size < w1.heap.size := World.block_lt_of_cell? w1 _ k0
  have hl1' : w.heap.size < w1.heap.size + 1 := by omega
  clear hb1 hr1 hc1
  go_wp2_with fail
  refine (H2.out _ _ _ ⟨HR1.out.1.below (by repeat (first | exact Below.refl _ _ | assumption | (refine Below.drew ?_) | (refine below_drewN' ?_ _) | (refine below_alloc' ?_ _))), HR1.out.2⟩ ⟨RdC.one ?_, CapOk.one _⟩).mono ?_
  · refine ⟨.slice (some ⟨w.heap.size, 0, none⟩) 2 2, ?_, xrd ?_ ?_, ?_, ?_, ?_, ?_⟩ <;> first | (simp [go_sem, k0, k1, hl1]; done) | exact Below.keeps (w := w1) (by repeat (first | exact Below.refl _ _ | assumption | (refine Below.drew ?_) | (refine below_drewN' ?_ _) | (refine below_alloc' ?_ _))) _ _ k0 | exact Below.keeps (w := w1) (by repeat (first | exact Below.refl _ _ | assumption | (refine Below.drew ?_) | (refine below_drewN' ?_ _) | (refine below_alloc' ?_ _))) _ _ k1
  rintro e w2 ⟨⟨A2, c2, rfl, hr2, hc2⟩, hb2⟩
  have HX2 := Lib.hid ((show Below w1.heap.size w1 _ from below_alloc' (Below.refl _ _) _).trans (hb2.mono (by simp)))
  have HR2 := Lib.hid (HR1.out.1.below HX2.out)
  have HB2 := Lib.hid (HB1.out.trans (HX2.out.mono HB1.out.size))
  replace k0 := Below.keeps HX2.out _ _ k0
  replace k1 := Below.keeps HX2.out _ _ k1
  have hl2 : w.heap.size < w2.heap.size := World.block_lt_of_cell? w2 _ k0
  have hl2' : w.heap.size < w2.heap.size + 1 := by omega
  clear hb2 hr2 hc2
  go_wp2_with fail
  refine (H3.out _ _ _ (HR2.out.below (by repeat (first | exact Below.refl _ _ | assumption | (refine Below.drew ?_) | (refine below_drewN' ?_ _) | (refine below_alloc' ?_ _)))) (RdC.one ?_)).mono ?_
  · refine ⟨.slice (some ⟨w.heap.size, 0, none⟩) 2 2, ?_, xrd ?_ ?_, ?_, ?_, ?_, ?_⟩ <;> first | (simp [go_sem, k0, k1, hl2]; done) | exact Below.keeps (w := w2) (by repeat (first | exact Below.refl _ _ | assumption | (refine Below.drew ?_) | (refine below_drewN' ?_ _) | (refine below_alloc' ?_ _))) _ _ k0 | exact Below.keeps (w := w2) (by repeat (first | exact Below.refl _ _ | assumption | (refine Below.drew ?_) | (refine below_drewN' ?_ _) | (refine below_alloc' ?_ _))) _ _ k1
  rintro e w3 ⟨rfl, n, rfl⟩
  have hb2 := HB2.out
  go_wp2_with fail
  go_ret
  exact ⟨rfl, (by repeat (first | exact Below.refl _ _ | assumption | (refine Below.drew ?_) | (refine below_drewN' ?_ _) | (refine below_alloc' ?_ _)))⟩
end Go.Proofs.Ytmeffkgdmimpdaa
