/-
  The walks of package plane: Then.
-/
import Derived.Test.YtlmgabhdeeehmaaPlane2
import Derived.Test.YtlmgabhdeeehmaaRegion
namespace Go.Proofs.Ytlmgabhdeeehmaa
open Go.RowKit
set_option linter.unusedVariables false
set_option linter.unusedSimpArgs false

theorem after_sets (w : World) (s g : Nat) (hne : ¬ s = g) (v0 v1 v2 v3 : Value) {x0 x1 x2 x3 y0 y1 y2 y3 : Value}
    (r0 : w.cell? ⟨s, 0, none⟩ = some x0) (r1 : w.cell? ⟨s, 1, none⟩ = some x1) (r2 : w.cell? ⟨s, 2, none⟩ = some x2) (r3 : w.cell? ⟨s, 3, none⟩ = some x3) (rf : ∀ k, w.frozen? ⟨s, k, none⟩ = false)
    (g0 : w.cell? ⟨g, 0, none⟩ = some y0) (g1 : w.cell? ⟨g, 1, none⟩ = some y1) (g2 : w.cell? ⟨g, 2, none⟩ = some y2) (g3 : w.cell? ⟨g, 3, none⟩ = some y3) (gf : ∀ k, w.frozen? ⟨g, k, none⟩ = false) :
    let w4 := (((w.setCell ⟨g, 0, none⟩ v0).setCell ⟨g, 1, none⟩ v1).setCell ⟨g, 2, none⟩ v2).setCell ⟨g, 3, none⟩ v3
    w4.cell? ⟨s, 0, none⟩ = some x0 ∧ w4.cell? ⟨s, 1, none⟩ = some x1 ∧ w4.cell? ⟨s, 2, none⟩ = some x2 ∧ w4.cell? ⟨s, 3, none⟩ = some x3 ∧ (∀ k, w4.frozen? ⟨s, k, none⟩ = false) ∧
    w4.cell? ⟨g, 0, none⟩ = some v0 ∧ w4.cell? ⟨g, 1, none⟩ = some v1 ∧ w4.cell? ⟨g, 2, none⟩ = some v2 ∧ w4.cell? ⟨g, 3, none⟩ = some v3 ∧ (∀ k, w4.frozen? ⟨g, k, none⟩ = false) := by
  have hne2 : ¬ g = s := fun e => hne e.symm
  simp [go_sem, r0, r1, r2, r3, rf, g0, g1, g2, g3, gf, hne, hne2]

/-- a complex number that reads as two whole numbers -/
inductive CV (v : Value) (X Y : Int) : Prop where
  | mk (r i : Nat) (h : v = .complex .f64 r i) (g1 : Fl.Val r X) (g2 : Fl.Val i Y) : CV v X Y

set_option maxRecDepth 8000 in
set_option maxHeartbeats 2000000 in
theorem Then_plain (t : Int) (f : Bool) (x y u a b : Int) (w : World) (hr : Pl.rightB t x y = true) (hs : Pl.rightB u a b = true) :
    Calls Try.prog 22 #[Mo t f x y, Mo u false a b] w fun e w' => e = .returned (if Pl.rightB ((t + u) % 4) (Pl.turnX u false x y + a) (Pl.turnY u false x y + b) = true then .tuple #[Mo ((t + u) % 4) f (Pl.turnX u false x y + a) (Pl.turnY u false x y + b), .int .i64 0] else .tuple #[Mz, .int .i64 11]) ∧ Below w.heap.size w w' := by
  have hR := Pl.rightB_iff.1 hr
  have hS := Pl.rightB_iff.1 hs
  have hbd := Pl.turn_bound (f := false) (t := u) (by omega) (by omega) (x := x) (y := y) (B := 2097152) (by omega) (by omega)
  have H1 := Lib.hid (fun (w : World) => at_val u false a b (floatOfInt .f64 x) (floatOfInt .f64 y) x y w (by omega) (by omega) (Val.ofInt (abs_lt _ (by omega))) (Val.ofInt (abs_lt _ (by omega))) (by omega) (by omega) (by omega) (by omega))
  have H2 := Lib.hid (fun (w : World) (r i : Nat) (g1 : Fl.Val r (Pl.turnX u false x y + a)) (g2 : Fl.Val i (Pl.turnY u false x y + b)) => of_any (t + u) f r i _ _ w (by omega) (by omega) g1 g2 (by omega) (by omega))
  have hw : IntKind.i64.wrap (t + u) = t + u := IntWalk.i64_in _ (by omega)
  have HW := Lib.hid hw
  clear hbd hw
  go_enter Try.func22, Try.ntmps22
  go_wp2_with fail
  refine (Right_any t f x y _).mono ?_
  rintro e w' ⟨rfl, rfl⟩
  go_wp2_with fail
  refine (Right_any u false a b _).mono ?_
  rintro e w' ⟨rfl, rfl⟩
  go_wp2_with fail
  have hw := HW.out
  refine wp_region_vals 15 [fun v _ => v = .int .i64 (t),
    fun v _ => v = .pointer (some ⟨w.heap.size + 1, 0, none⟩),
    fun v _ => v = .int .i64 u,
    fun v _ => v = .int .i64 (t + u),
    fun v _ => v = .pointer (some ⟨w.heap.size, 1, none⟩),
    fun v _ => v = .bool f,
    fun v _ => v = .pointer (some ⟨w.heap.size + 1, 1, none⟩),
    fun v _ => v = .bool false,
    fun v _ => v = .bool f,
    fun v _ => v = Mo u false a b,
    fun v _ => v = Mo t f x y,
    fun v9 w9 => v9 = .complex .f64 (floatOfInt .f64 x) (floatOfInt .f64 y),
    fun v9 w9 => CV v9 (Pl.turnX u false x y + a) (Pl.turnY u false x y + b),
    fun v9 w9 => v9 = Mo ((t + u) % 4) f (Pl.turnX u false x y + a) (Pl.turnY u false x y + b),
    fun v9 w9 => ∃ g, v9 = .pointer (some ⟨g, 0, none⟩) ∧ w.heap.size + 3 ≤ g ∧ w9.heap[g]? = some (MoB 0 false 0 0)]
    (by kernel_rfl) (by kernel_rfl) (by kernel_rfl) (by kernel_rfl) ?_ ?_ ?_
  · intro V hV v w1 w2 h hb
    simp only [List.mem_cons, List.not_mem_nil, or_false] at hV
    rcases hV with rfl | rfl | rfl | rfl | rfl | rfl | rfl | rfl | rfl | rfl | rfl | rfl | rfl | rfl | rfl
    all_goals first | exact h | (obtain ⟨g, h1, h2, h3⟩ := h; exact ⟨g, h1, h2, (hb.block g (Array.getElem?_eq_some_iff.1 h3).1).trans h3⟩)
  · intro i o hi ho
    match i, hi with
    | 0, _ =>
    obtain rfl := Option.some.inj ho
    intro a1 w1 K hk hK
    have e6 : a1.tmps.getD 6 undef = .int .i64 (t) := hk.same 6 (by simp)
    simp [Region.wanted, Oper.wp, Act.eval, go_sem, e6, hw]
    exact hK _ _ (Below.refl _ _) rfl
    | 1, _ =>
    obtain rfl := Option.some.inj ho
    intro a1 w1 K hk hK
    have e3 : a1.tmps.getD 3 undef = .pointer (some ⟨w.heap.size + 1, 0, none⟩) := hk.same 3 (by simp)
    simp [Region.wanted, Oper.wp, Act.eval, go_sem, e3, hw]
    exact hK _ _ (Below.refl _ _) rfl
    | 2, _ =>
    obtain rfl := Option.some.inj ho
    intro a1 w1 K hk hK
    have d24 : a1.tmps.getD 24 undef = .pointer (some ⟨w.heap.size + 1, 0, none⟩) := hk.deps ⟨1, .data⟩ (by simp) rfl _ _ rfl rfl
    have c0 : w1.cell? ⟨w.heap.size, 0, none⟩ = some (.int .i64 t) := Below.keeps hk.ext _ _ (by simp [go_sem, hw])
    have c1 : w1.cell? ⟨w.heap.size, 1, none⟩ = some (.bool f) := Below.keeps hk.ext _ _ (by simp [go_sem, hw])
    have c2 : w1.cell? ⟨w.heap.size, 2, none⟩ = some (.int .i64 x) := Below.keeps hk.ext _ _ (by simp [go_sem, hw])
    have c3 : w1.cell? ⟨w.heap.size, 3, none⟩ = some (.int .i64 y) := Below.keeps hk.ext _ _ (by simp [go_sem, hw])
    have c4 : w1.cell? ⟨w.heap.size + 1, 0, none⟩ = some (.int .i64 u) := Below.keeps hk.ext _ _ (by simp [go_sem, hw])
    have c5 : w1.cell? ⟨w.heap.size + 1, 1, none⟩ = some (.bool false) := Below.keeps hk.ext _ _ (by simp [go_sem, hw])
    have c6 : w1.cell? ⟨w.heap.size + 1, 2, none⟩ = some (.int .i64 a) := Below.keeps hk.ext _ _ (by simp [go_sem, hw])
    have c7 : w1.cell? ⟨w.heap.size + 1, 3, none⟩ = some (.int .i64 b) := Below.keeps hk.ext _ _ (by simp [go_sem, hw])
    simp [Region.wanted, Oper.wp, Act.eval, go_sem, d24, c0, c1, c2, c3, c4, c5, c6, c7, hw]
    exact hK _ _ (Below.refl _ _) rfl
    | 3, _ =>
    obtain rfl := Option.some.inj ho
    intro a1 w1 K hk hK
    have d23 : a1.tmps.getD 23 undef = .int .i64 (t) := hk.deps ⟨0, .data⟩ (by simp) rfl _ _ rfl rfl
    have d25 : a1.tmps.getD 25 undef = .int .i64 u := hk.deps ⟨2, .data⟩ (by simp) rfl _ _ rfl rfl
    simp [Region.wanted, Oper.wp, Act.eval, go_sem, d23, d25, hw]
    exact hK _ _ (Below.refl _ _) rfl
    | 4, _ =>
    obtain rfl := Option.some.inj ho
    intro a1 w1 K hk hK
    have e2 : a1.tmps.getD 2 undef = .pointer (some ⟨w.heap.size, 0, none⟩) := hk.same 2 (by simp)
    simp [Region.wanted, Oper.wp, Act.eval, go_sem, e2, hw]
    exact hK _ _ (Below.refl _ _) rfl
    | 5, _ =>
    obtain rfl := Option.some.inj ho
    intro a1 w1 K hk hK
    have d27 : a1.tmps.getD 27 undef = .pointer (some ⟨w.heap.size, 1, none⟩) := hk.deps ⟨4, .data⟩ (by simp) rfl _ _ rfl rfl
    have c0 : w1.cell? ⟨w.heap.size, 0, none⟩ = some (.int .i64 t) := Below.keeps hk.ext _ _ (by simp [go_sem, hw])
    have c1 : w1.cell? ⟨w.heap.size, 1, none⟩ = some (.bool f) := Below.keeps hk.ext _ _ (by simp [go_sem, hw])
    have c2 : w1.cell? ⟨w.heap.size, 2, none⟩ = some (.int .i64 x) := Below.keeps hk.ext _ _ (by simp [go_sem, hw])
    have c3 : w1.cell? ⟨w.heap.size, 3, none⟩ = some (.int .i64 y) := Below.keeps hk.ext _ _ (by simp [go_sem, hw])
    have c4 : w1.cell? ⟨w.heap.size + 1, 0, none⟩ = some (.int .i64 u) := Below.keeps hk.ext _ _ (by simp [go_sem, hw])
    have c5 : w1.cell? ⟨w.heap.size + 1, 1, none⟩ = some (.bool false) := Below.keeps hk.ext _ _ (by simp [go_sem, hw])
    have c6 : w1.cell? ⟨w.heap.size + 1, 2, none⟩ = some (.int .i64 a) := Below.keeps hk.ext _ _ (by simp [go_sem, hw])
    have c7 : w1.cell? ⟨w.heap.size + 1, 3, none⟩ = some (.int .i64 b) := Below.keeps hk.ext _ _ (by simp [go_sem, hw])
    simp [Region.wanted, Oper.wp, Act.eval, go_sem, d27, c0, c1, c2, c3, c4, c5, c6, c7, hw]
    exact hK _ _ (Below.refl _ _) rfl
    | 6, _ =>
    obtain rfl := Option.some.inj ho
    intro a1 w1 K hk hK
    have e3 : a1.tmps.getD 3 undef = .pointer (some ⟨w.heap.size + 1, 0, none⟩) := hk.same 3 (by simp)
    simp [Region.wanted, Oper.wp, Act.eval, go_sem, e3, hw]
    exact hK _ _ (Below.refl _ _) rfl
    | 7, _ =>
    obtain rfl := Option.some.inj ho
    intro a1 w1 K hk hK
    have d29 : a1.tmps.getD 29 undef = .pointer (some ⟨w.heap.size + 1, 1, none⟩) := hk.deps ⟨6, .data⟩ (by simp) rfl _ _ rfl rfl
    have c0 : w1.cell? ⟨w.heap.size, 0, none⟩ = some (.int .i64 t) := Below.keeps hk.ext _ _ (by simp [go_sem, hw])
    have c1 : w1.cell? ⟨w.heap.size, 1, none⟩ = some (.bool f) := Below.keeps hk.ext _ _ (by simp [go_sem, hw])
    have c2 : w1.cell? ⟨w.heap.size, 2, none⟩ = some (.int .i64 x) := Below.keeps hk.ext _ _ (by simp [go_sem, hw])
    have c3 : w1.cell? ⟨w.heap.size, 3, none⟩ = some (.int .i64 y) := Below.keeps hk.ext _ _ (by simp [go_sem, hw])
    have c4 : w1.cell? ⟨w.heap.size + 1, 0, none⟩ = some (.int .i64 u) := Below.keeps hk.ext _ _ (by simp [go_sem, hw])
    have c5 : w1.cell? ⟨w.heap.size + 1, 1, none⟩ = some (.bool false) := Below.keeps hk.ext _ _ (by simp [go_sem, hw])
    have c6 : w1.cell? ⟨w.heap.size + 1, 2, none⟩ = some (.int .i64 a) := Below.keeps hk.ext _ _ (by simp [go_sem, hw])
    have c7 : w1.cell? ⟨w.heap.size + 1, 3, none⟩ = some (.int .i64 b) := Below.keeps hk.ext _ _ (by simp [go_sem, hw])
    simp [Region.wanted, Oper.wp, Act.eval, go_sem, d29, c0, c1, c2, c3, c4, c5, c6, c7, hw]
    exact hK _ _ (Below.refl _ _) rfl
    | 8, _ =>
    obtain rfl := Option.some.inj ho
    intro a1 w1 K hk hK
    have d28 : a1.tmps.getD 28 undef = .bool f := hk.deps ⟨5, .data⟩ (by simp) rfl _ _ rfl rfl
    have d30 : a1.tmps.getD 30 undef = .bool false := hk.deps ⟨7, .data⟩ (by simp) rfl _ _ rfl rfl
    simp [Region.wanted, Oper.wp, Act.eval, go_sem, d28, d30, hw]
    exact hK _ _ (Below.refl _ _) rfl
    | 9, _ =>
    obtain rfl := Option.some.inj ho
    intro a1 w1 K hk hK
    have e3 : a1.tmps.getD 3 undef = .pointer (some ⟨w.heap.size + 1, 0, none⟩) := hk.same 3 (by simp)
    have c0 : w1.cell? ⟨w.heap.size, 0, none⟩ = some (.int .i64 t) := Below.keeps hk.ext _ _ (by simp [go_sem, hw])
    have c1 : w1.cell? ⟨w.heap.size, 1, none⟩ = some (.bool f) := Below.keeps hk.ext _ _ (by simp [go_sem, hw])
    have c2 : w1.cell? ⟨w.heap.size, 2, none⟩ = some (.int .i64 x) := Below.keeps hk.ext _ _ (by simp [go_sem, hw])
    have c3 : w1.cell? ⟨w.heap.size, 3, none⟩ = some (.int .i64 y) := Below.keeps hk.ext _ _ (by simp [go_sem, hw])
    have c4 : w1.cell? ⟨w.heap.size + 1, 0, none⟩ = some (.int .i64 u) := Below.keeps hk.ext _ _ (by simp [go_sem, hw])
    have c5 : w1.cell? ⟨w.heap.size + 1, 1, none⟩ = some (.bool false) := Below.keeps hk.ext _ _ (by simp [go_sem, hw])
    have c6 : w1.cell? ⟨w.heap.size + 1, 2, none⟩ = some (.int .i64 a) := Below.keeps hk.ext _ _ (by simp [go_sem, hw])
    have c7 : w1.cell? ⟨w.heap.size + 1, 3, none⟩ = some (.int .i64 b) := Below.keeps hk.ext _ _ (by simp [go_sem, hw])
    simp [Region.wanted, Oper.wp, Act.eval, go_sem, e3, c0, c1, c2, c3, c4, c5, c6, c7, hw]
    exact hK _ _ (Below.refl _ _) rfl
    | 10, _ =>
    obtain rfl := Option.some.inj ho
    intro a1 w1 K hk hK
    have e2 : a1.tmps.getD 2 undef = .pointer (some ⟨w.heap.size, 0, none⟩) := hk.same 2 (by simp)
    have c0 : w1.cell? ⟨w.heap.size, 0, none⟩ = some (.int .i64 t) := Below.keeps hk.ext _ _ (by simp [go_sem, hw])
    have c1 : w1.cell? ⟨w.heap.size, 1, none⟩ = some (.bool f) := Below.keeps hk.ext _ _ (by simp [go_sem, hw])
    have c2 : w1.cell? ⟨w.heap.size, 2, none⟩ = some (.int .i64 x) := Below.keeps hk.ext _ _ (by simp [go_sem, hw])
    have c3 : w1.cell? ⟨w.heap.size, 3, none⟩ = some (.int .i64 y) := Below.keeps hk.ext _ _ (by simp [go_sem, hw])
    have c4 : w1.cell? ⟨w.heap.size + 1, 0, none⟩ = some (.int .i64 u) := Below.keeps hk.ext _ _ (by simp [go_sem, hw])
    have c5 : w1.cell? ⟨w.heap.size + 1, 1, none⟩ = some (.bool false) := Below.keeps hk.ext _ _ (by simp [go_sem, hw])
    have c6 : w1.cell? ⟨w.heap.size + 1, 2, none⟩ = some (.int .i64 a) := Below.keeps hk.ext _ _ (by simp [go_sem, hw])
    have c7 : w1.cell? ⟨w.heap.size + 1, 3, none⟩ = some (.int .i64 b) := Below.keeps hk.ext _ _ (by simp [go_sem, hw])
    simp [Region.wanted, Oper.wp, Act.eval, go_sem, e2, c0, c1, c2, c3, c4, c5, c6, c7, hw]
    exact hK _ _ (Below.refl _ _) rfl
    | 11, _ =>
    obtain rfl := Option.some.inj ho
    intro a1 w1 K hk hK
    have d33 : a1.tmps.getD 33 undef = Mo t f x y := hk.deps ⟨10, .data⟩ (by simp) rfl _ _ rfl rfl
    simp [Region.wanted, Oper.wp, Act.eval, go_sem, d33, hw]
    refine (shift_any t f x y _).mono ?_
    rintro e w2 ⟨rfl, rfl⟩
    exact hK _ _ (by repeat (first | exact Below.refl _ _ | assumption | (refine Below.drew ?_) | (refine below_drewN' ?_ _) | (refine Below.alloc ?_ (by first | exact Nat.le_refl _ | (simp; done) | (simp; omega)) _))) rfl
    | 12, _ =>
    obtain rfl := Option.some.inj ho
    intro a1 w1 K hk hK
    have d32 : a1.tmps.getD 32 undef = Mo u false a b := hk.deps ⟨9, .data⟩ (by simp) rfl _ _ rfl rfl
    have D34 : (a1.tmps.getD 34 undef) = .complex .f64 (floatOfInt .f64 x) (floatOfInt .f64 y) := hk.deps ⟨11, .data⟩ (by simp) rfl _ _ rfl rfl
    replace D34 : a1.tmps.getD 34 undef = .complex .f64 (floatOfInt .f64 x) (floatOfInt .f64 y) := D34
    simp [Region.wanted, Oper.wp, Act.eval, go_sem, d32, D34]
    refine (H1.out _).mono ?_
    rintro e w2 ⟨r, i, rfl, rfl, g1, g2⟩
    exact hK _ _ (by repeat (first | exact Below.refl _ _ | assumption | (refine Below.drew ?_) | (refine below_drewN' ?_ _) | (refine Below.alloc ?_ (by first | exact Nat.le_refl _ | (simp; done) | (simp; omega)) _))) (CV.mk r i rfl g1 g2)
    | 13, _ =>
    obtain rfl := Option.some.inj ho
    intro a1 w1 K hk hK
    have d26 : a1.tmps.getD 26 undef = .int .i64 (t + u) := hk.deps ⟨3, .data⟩ (by simp) rfl _ _ rfl rfl
    have d31 : a1.tmps.getD 31 undef = .bool f := hk.deps ⟨8, .data⟩ (by simp) rfl _ _ rfl rfl
    have D35 : CV (a1.tmps.getD 35 undef) (Pl.turnX u false x y + a) (Pl.turnY u false x y + b) := hk.deps ⟨12, .data⟩ (by simp) rfl _ _ rfl rfl
    rcases D35 with ⟨r, i, D38, g1, g2⟩
    simp [Region.wanted, Oper.wp, Act.eval, go_sem, d26, d31, D38]
    refine (H2.out _ r i g1 g2).mono ?_
    rintro e w2 ⟨rfl, rfl⟩
    exact hK _ _ (by repeat (first | exact Below.refl _ _ | assumption | (refine Below.drew ?_) | (refine below_drewN' ?_ _) | (refine Below.alloc ?_ (by first | exact Nat.le_refl _ | (simp; done) | (simp; omega)) _))) rfl
    | 14, _ =>
    obtain rfl := Option.some.inj ho
    intro a1 w1 K hk hK
    have hsz := hk.ext.size
    simp [Region.wanted, Oper.wp, Act.eval, go_sem, hw]
    exact hK _ _ (by repeat (first | exact Below.refl _ _ | assumption | (refine Below.drew ?_) | (refine below_drewN' ?_ _) | (refine Below.alloc ?_ (by first | exact Nat.le_refl _ | (simp; done) | (simp; omega)) _))) ⟨w1.heap.size, rfl, by simp at hsz; omega, heap_alloc_new _ _⟩
  · intro vs w3 hl hb3 hv
    match vs, hl with
    | [v0, v1, v2, v3, v4, v5, v6, v7, v8, v9, v10, v11, v12, v13, v14], _ =>
    obtain rfl : v0 = .int .i64 (t) := hv 0 (by omega)
    obtain rfl : v1 = .pointer (some ⟨w.heap.size + 1, 0, none⟩) := hv 1 (by omega)
    obtain rfl : v2 = .int .i64 u := hv 2 (by omega)
    obtain rfl : v3 = .int .i64 (t + u) := hv 3 (by omega)
    obtain rfl : v4 = .pointer (some ⟨w.heap.size, 1, none⟩) := hv 4 (by omega)
    obtain rfl : v5 = .bool f := hv 5 (by omega)
    obtain rfl : v6 = .pointer (some ⟨w.heap.size + 1, 1, none⟩) := hv 6 (by omega)
    obtain rfl : v7 = .bool false := hv 7 (by omega)
    obtain rfl : v8 = .bool f := hv 8 (by omega)
    obtain rfl : v9 = Mo u false a b := hv 9 (by omega)
    obtain rfl : v10 = Mo t f x y := hv 10 (by omega)
    have q11 : v11 = .complex .f64 (floatOfInt .f64 x) (floatOfInt .f64 y) := hv 11 (by omega)
    have q12 : CV v12 (Pl.turnX u false x y + a) (Pl.turnY u false x y + b) := hv 12 (by omega)
    have q13 : v13 = Mo ((t + u) % 4) f (Pl.turnX u false x y + a) (Pl.turnY u false x y + b) := hv 13 (by omega)
    have q14 : ∃ g, v14 = .pointer (some ⟨g, 0, none⟩) ∧ w.heap.size + 3 ≤ g ∧ w3.heap[g]? = some (MoB 0 false 0 0) := hv 14 (by omega)
    clear hv
    clear hw
    obtain ⟨g, rfl, hg1, hg2⟩ := q14
    obtain rfl : v11 = _ := q11
    obtain rfl : v13 = _ := q13
    clear q12
    simp only [putAll, List.take_succ_cons, List.take_zero, List.drop_succ_cons, List.drop_zero, Act.put, List.setIfInBounds_toArray, List.set_cons_succ, List.set_cons_zero]
    have hBB : Below w.heap.size w w3 := below_trans (by repeat (first | exact Below.refl _ _ | assumption | (refine Below.drew ?_) | (refine below_drewN' ?_ _) | (refine Below.alloc ?_ (by first | exact Nat.le_refl _ | (simp; done) | (simp; omega)) _))) hb3
    have hglt : g < w3.heap.size := (Array.getElem?_eq_some_iff.1 hg2).1
    have hg0 : w3.cell? ⟨g, 0, none⟩ = some (.int .i64 0) := by simp [World.cell?, hg2]
    have hg3 : w3.cell? ⟨g, 1, none⟩ = some (.bool false) := by simp [World.cell?, hg2]
    have hg4 : w3.cell? ⟨g, 2, none⟩ = some (.int .i64 0) := by simp [World.cell?, hg2]
    have hg5 : w3.cell? ⟨g, 3, none⟩ = some (.int .i64 0) := by simp [World.cell?, hg2]
    have hgf : ∀ k, w3.frozen? ⟨g, k, none⟩ = false := by intro k; simp [World.frozen?, hg2]
    have r0 : w3.cell? ⟨w.heap.size + 1 + 1, 0, none⟩ = some (.int .i64 0) := Below.keeps hb3 _ _ (by simp [go_sem])
    have r1 : w3.cell? ⟨w.heap.size + 1 + 1, 1, none⟩ = some (.bool false) := Below.keeps hb3 _ _ (by simp [go_sem])
    have r2 : w3.cell? ⟨w.heap.size + 1 + 1, 2, none⟩ = some (.int .i64 0) := Below.keeps hb3 _ _ (by simp [go_sem])
    have r3 : w3.cell? ⟨w.heap.size + 1 + 1, 3, none⟩ = some (.int .i64 0) := Below.keeps hb3 _ _ (by simp [go_sem])
    have rf : ∀ k, w3.frozen? ⟨w.heap.size + 1 + 1, k, none⟩ = false := by intro k; rw [hb3.frozen (by first | (simp; done) | (simp; omega))]; simp [go_sem]
    have hne : ¬ g = w.heap.size + 1 + 1 := by omega
    have hne2 : ¬ w.heap.size + 1 + 1 = g := by omega
    clear hb3 hg2
    go_wp2_with fail
    have hB5 : Below w.heap.size w ((((w3.setCell ⟨g, 0, none⟩ (.int .i64 ((t + u) % 4))).setCell ⟨g, 1, none⟩ (.bool f)).setCell ⟨g, 2, none⟩ (.int .i64 (Pl.turnX u false x y + a))).setCell ⟨g, 3, none⟩ (.int .i64 (Pl.turnY u false x y + b))) := (((hBB.setCell (show w.heap.size ≤ g by omega) _).setCell (show w.heap.size ≤ g by omega) _).setCell (show w.heap.size ≤ g by omega) _).setCell (show w.heap.size ≤ g by omega) _
    have W := after_sets w3 (w.heap.size + 1 + 1) g hne2 (.int .i64 ((t + u) % 4)) (.bool f) (.int .i64 (Pl.turnX u false x y + a)) (.int .i64 (Pl.turnY u false x y + b)) r0 r1 r2 r3 rf hg0 hg3 hg4 hg5 hgf
    generalize ((((w3.setCell ⟨g, 0, none⟩ (.int .i64 ((t + u) % 4))).setCell ⟨g, 1, none⟩ (.bool f)).setCell ⟨g, 2, none⟩ (.int .i64 (Pl.turnX u false x y + a))).setCell ⟨g, 3, none⟩ (.int .i64 (Pl.turnY u false x y + b))) = w4 at *
    obtain ⟨r0, r1, r2, r3, rf, g0, g1, g2, g3, gf⟩ := W
    have hr4 := World.block_lt_of_cell? w4 _ r0
    have hg4 := World.block_lt_of_cell? w4 _ g0
    simp only at hr4 hg4
    clear hg0 hg3 hg5 hgf hBB hglt
    refine (Right_any _ _ _ _ _).mono ?_
    rintro e w' ⟨rfl, rfl⟩
    cases hm : Pl.rightB ((t + u) % 4) (Pl.turnX u false x y + a) (Pl.turnY u false x y + b)
    · go_wp2_with fail
      all_goals exact bodyPost_ret (v := .tuple #[Mz, .int .i64 11]) (by simp [results, Try.results22, go_sem, r0, r1, r2, r3, rf, hr4]) rfl ⟨rfl, (by repeat (first | exact Below.refl _ _ | assumption | (refine Below.drew ?_) | (refine Below.setCell ?_ (show w.heap.size ≤ _ by simp; omega) _) | (refine Below.alloc ?_ (by simp; omega) _)))⟩
    · go_wp2_with fail
      all_goals exact bodyPost_ret (v := .tuple #[Mo ((t + u) % 4) f (Pl.turnX u false x y + a) (Pl.turnY u false x y + b), .int .i64 0]) (by simp [results, Try.results22, go_sem, r0, r1, r2, r3, rf, hr4]) rfl ⟨rfl, (by repeat (first | exact Below.refl _ _ | assumption | (refine Below.drew ?_) | (refine Below.setCell ?_ (show w.heap.size ≤ _ by simp; omega) _) | (refine Below.alloc ?_ (by simp; omega) _)))⟩

set_option maxRecDepth 8000 in
set_option maxHeartbeats 2000000 in
theorem Then_flip (t : Int) (f : Bool) (x y u a b : Int) (w : World) (hr : Pl.rightB t x y = true) (hs : Pl.rightB u a b = true) :
    Calls Try.prog 22 #[Mo t f x y, Mo u true a b] w fun e w' => e = .returned (if Pl.rightB ((-t + u) % 4) (Pl.turnX u true x y + a) (Pl.turnY u true x y + b) = true then .tuple #[Mo ((-t + u) % 4) (!f) (Pl.turnX u true x y + a) (Pl.turnY u true x y + b), .int .i64 0] else .tuple #[Mz, .int .i64 11]) ∧ Below w.heap.size w w' := by
  have hR := Pl.rightB_iff.1 hr
  have hS := Pl.rightB_iff.1 hs
  have hbd := Pl.turn_bound (f := true) (t := u) (by omega) (by omega) (x := x) (y := y) (B := 2097152) (by omega) (by omega)
  have H1 := Lib.hid (fun (w : World) => at_val u true a b (floatOfInt .f64 x) (floatOfInt .f64 y) x y w (by omega) (by omega) (Val.ofInt (abs_lt _ (by omega))) (Val.ofInt (abs_lt _ (by omega))) (by omega) (by omega) (by omega) (by omega))
  have H2 := Lib.hid (fun (w : World) (r i : Nat) (g1 : Fl.Val r (Pl.turnX u true x y + a)) (g2 : Fl.Val i (Pl.turnY u true x y + b)) => of_any (-t + u) (!f) r i _ _ w (by omega) (by omega) g1 g2 (by omega) (by omega))
  have hw : IntKind.i64.wrap (-t + u) = -t + u := IntWalk.i64_in _ (by omega)
  have HW := Lib.hid hw
  clear hbd hw
  go_enter Try.func22, Try.ntmps22
  go_wp2_with fail
  refine (Right_any t f x y _).mono ?_
  rintro e w' ⟨rfl, rfl⟩
  go_wp2_with fail
  refine (Right_any u true a b _).mono ?_
  rintro e w' ⟨rfl, rfl⟩
  go_wp2_with fail
  have hw := HW.out
  refine wp_region_vals 15 [fun v _ => v = .int .i64 (-t),
    fun v _ => v = .pointer (some ⟨w.heap.size + 1, 0, none⟩),
    fun v _ => v = .int .i64 u,
    fun v _ => v = .int .i64 (-t + u),
    fun v _ => v = .pointer (some ⟨w.heap.size, 1, none⟩),
    fun v _ => v = .bool f,
    fun v _ => v = .pointer (some ⟨w.heap.size + 1, 1, none⟩),
    fun v _ => v = .bool true,
    fun v _ => v = .bool (!f),
    fun v _ => v = Mo u true a b,
    fun v _ => v = Mo t f x y,
    fun v9 w9 => v9 = .complex .f64 (floatOfInt .f64 x) (floatOfInt .f64 y),
    fun v9 w9 => CV v9 (Pl.turnX u true x y + a) (Pl.turnY u true x y + b),
    fun v9 w9 => v9 = Mo ((-t + u) % 4) (!f) (Pl.turnX u true x y + a) (Pl.turnY u true x y + b),
    fun v9 w9 => ∃ g, v9 = .pointer (some ⟨g, 0, none⟩) ∧ w.heap.size + 3 ≤ g ∧ w9.heap[g]? = some (MoB 0 false 0 0)]
    (by kernel_rfl) (by kernel_rfl) (by kernel_rfl) (by kernel_rfl) ?_ ?_ ?_
  · intro V hV v w1 w2 h hb
    simp only [List.mem_cons, List.not_mem_nil, or_false] at hV
    rcases hV with rfl | rfl | rfl | rfl | rfl | rfl | rfl | rfl | rfl | rfl | rfl | rfl | rfl | rfl | rfl
    all_goals first | exact h | (obtain ⟨g, h1, h2, h3⟩ := h; exact ⟨g, h1, h2, (hb.block g (Array.getElem?_eq_some_iff.1 h3).1).trans h3⟩)
  · intro i o hi ho
    match i, hi with
    | 0, _ =>
    obtain rfl := Option.some.inj ho
    intro a1 w1 K hk hK
    have e6 : a1.tmps.getD 6 undef = .int .i64 (-t) := hk.same 6 (by simp)
    simp [Region.wanted, Oper.wp, Act.eval, go_sem, e6, hw]
    exact hK _ _ (Below.refl _ _) rfl
    | 1, _ =>
    obtain rfl := Option.some.inj ho
    intro a1 w1 K hk hK
    have e3 : a1.tmps.getD 3 undef = .pointer (some ⟨w.heap.size + 1, 0, none⟩) := hk.same 3 (by simp)
    simp [Region.wanted, Oper.wp, Act.eval, go_sem, e3, hw]
    exact hK _ _ (Below.refl _ _) rfl
    | 2, _ =>
    obtain rfl := Option.some.inj ho
    intro a1 w1 K hk hK
    have d24 : a1.tmps.getD 24 undef = .pointer (some ⟨w.heap.size + 1, 0, none⟩) := hk.deps ⟨1, .data⟩ (by simp) rfl _ _ rfl rfl
    have c0 : w1.cell? ⟨w.heap.size, 0, none⟩ = some (.int .i64 t) := Below.keeps hk.ext _ _ (by simp [go_sem, hw])
    have c1 : w1.cell? ⟨w.heap.size, 1, none⟩ = some (.bool f) := Below.keeps hk.ext _ _ (by simp [go_sem, hw])
    have c2 : w1.cell? ⟨w.heap.size, 2, none⟩ = some (.int .i64 x) := Below.keeps hk.ext _ _ (by simp [go_sem, hw])
    have c3 : w1.cell? ⟨w.heap.size, 3, none⟩ = some (.int .i64 y) := Below.keeps hk.ext _ _ (by simp [go_sem, hw])
    have c4 : w1.cell? ⟨w.heap.size + 1, 0, none⟩ = some (.int .i64 u) := Below.keeps hk.ext _ _ (by simp [go_sem, hw])
    have c5 : w1.cell? ⟨w.heap.size + 1, 1, none⟩ = some (.bool true) := Below.keeps hk.ext _ _ (by simp [go_sem, hw])
    have c6 : w1.cell? ⟨w.heap.size + 1, 2, none⟩ = some (.int .i64 a) := Below.keeps hk.ext _ _ (by simp [go_sem, hw])
    have c7 : w1.cell? ⟨w.heap.size + 1, 3, none⟩ = some (.int .i64 b) := Below.keeps hk.ext _ _ (by simp [go_sem, hw])
    simp [Region.wanted, Oper.wp, Act.eval, go_sem, d24, c0, c1, c2, c3, c4, c5, c6, c7, hw]
    exact hK _ _ (Below.refl _ _) rfl
    | 3, _ =>
    obtain rfl := Option.some.inj ho
    intro a1 w1 K hk hK
    have d23 : a1.tmps.getD 23 undef = .int .i64 (-t) := hk.deps ⟨0, .data⟩ (by simp) rfl _ _ rfl rfl
    have d25 : a1.tmps.getD 25 undef = .int .i64 u := hk.deps ⟨2, .data⟩ (by simp) rfl _ _ rfl rfl
    simp [Region.wanted, Oper.wp, Act.eval, go_sem, d23, d25, hw]
    exact hK _ _ (Below.refl _ _) rfl
    | 4, _ =>
    obtain rfl := Option.some.inj ho
    intro a1 w1 K hk hK
    have e2 : a1.tmps.getD 2 undef = .pointer (some ⟨w.heap.size, 0, none⟩) := hk.same 2 (by simp)
    simp [Region.wanted, Oper.wp, Act.eval, go_sem, e2, hw]
    exact hK _ _ (Below.refl _ _) rfl
    | 5, _ =>
    obtain rfl := Option.some.inj ho
    intro a1 w1 K hk hK
    have d27 : a1.tmps.getD 27 undef = .pointer (some ⟨w.heap.size, 1, none⟩) := hk.deps ⟨4, .data⟩ (by simp) rfl _ _ rfl rfl
    have c0 : w1.cell? ⟨w.heap.size, 0, none⟩ = some (.int .i64 t) := Below.keeps hk.ext _ _ (by simp [go_sem, hw])
    have c1 : w1.cell? ⟨w.heap.size, 1, none⟩ = some (.bool f) := Below.keeps hk.ext _ _ (by simp [go_sem, hw])
    have c2 : w1.cell? ⟨w.heap.size, 2, none⟩ = some (.int .i64 x) := Below.keeps hk.ext _ _ (by simp [go_sem, hw])
    have c3 : w1.cell? ⟨w.heap.size, 3, none⟩ = some (.int .i64 y) := Below.keeps hk.ext _ _ (by simp [go_sem, hw])
    have c4 : w1.cell? ⟨w.heap.size + 1, 0, none⟩ = some (.int .i64 u) := Below.keeps hk.ext _ _ (by simp [go_sem, hw])
    have c5 : w1.cell? ⟨w.heap.size + 1, 1, none⟩ = some (.bool true) := Below.keeps hk.ext _ _ (by simp [go_sem, hw])
    have c6 : w1.cell? ⟨w.heap.size + 1, 2, none⟩ = some (.int .i64 a) := Below.keeps hk.ext _ _ (by simp [go_sem, hw])
    have c7 : w1.cell? ⟨w.heap.size + 1, 3, none⟩ = some (.int .i64 b) := Below.keeps hk.ext _ _ (by simp [go_sem, hw])
    simp [Region.wanted, Oper.wp, Act.eval, go_sem, d27, c0, c1, c2, c3, c4, c5, c6, c7, hw]
    exact hK _ _ (Below.refl _ _) rfl
    | 6, _ =>
    obtain rfl := Option.some.inj ho
    intro a1 w1 K hk hK
    have e3 : a1.tmps.getD 3 undef = .pointer (some ⟨w.heap.size + 1, 0, none⟩) := hk.same 3 (by simp)
    simp [Region.wanted, Oper.wp, Act.eval, go_sem, e3, hw]
    exact hK _ _ (Below.refl _ _) rfl
    | 7, _ =>
    obtain rfl := Option.some.inj ho
    intro a1 w1 K hk hK
    have d29 : a1.tmps.getD 29 undef = .pointer (some ⟨w.heap.size + 1, 1, none⟩) := hk.deps ⟨6, .data⟩ (by simp) rfl _ _ rfl rfl
    have c0 : w1.cell? ⟨w.heap.size, 0, none⟩ = some (.int .i64 t) := Below.keeps hk.ext _ _ (by simp [go_sem, hw])
    have c1 : w1.cell? ⟨w.heap.size, 1, none⟩ = some (.bool f) := Below.keeps hk.ext _ _ (by simp [go_sem, hw])
    have c2 : w1.cell? ⟨w.heap.size, 2, none⟩ = some (.int .i64 x) := Below.keeps hk.ext _ _ (by simp [go_sem, hw])
    have c3 : w1.cell? ⟨w.heap.size, 3, none⟩ = some (.int .i64 y) := Below.keeps hk.ext _ _ (by simp [go_sem, hw])
    have c4 : w1.cell? ⟨w.heap.size + 1, 0, none⟩ = some (.int .i64 u) := Below.keeps hk.ext _ _ (by simp [go_sem, hw])
    have c5 : w1.cell? ⟨w.heap.size + 1, 1, none⟩ = some (.bool true) := Below.keeps hk.ext _ _ (by simp [go_sem, hw])
    have c6 : w1.cell? ⟨w.heap.size + 1, 2, none⟩ = some (.int .i64 a) := Below.keeps hk.ext _ _ (by simp [go_sem, hw])
    have c7 : w1.cell? ⟨w.heap.size + 1, 3, none⟩ = some (.int .i64 b) := Below.keeps hk.ext _ _ (by simp [go_sem, hw])
    simp [Region.wanted, Oper.wp, Act.eval, go_sem, d29, c0, c1, c2, c3, c4, c5, c6, c7, hw]
    exact hK _ _ (Below.refl _ _) rfl
    | 8, _ =>
    obtain rfl := Option.some.inj ho
    intro a1 w1 K hk hK
    have d28 : a1.tmps.getD 28 undef = .bool f := hk.deps ⟨5, .data⟩ (by simp) rfl _ _ rfl rfl
    have d30 : a1.tmps.getD 30 undef = .bool true := hk.deps ⟨7, .data⟩ (by simp) rfl _ _ rfl rfl
    simp [Region.wanted, Oper.wp, Act.eval, go_sem, d28, d30, hw]
    exact hK _ _ (Below.refl _ _) rfl
    | 9, _ =>
    obtain rfl := Option.some.inj ho
    intro a1 w1 K hk hK
    have e3 : a1.tmps.getD 3 undef = .pointer (some ⟨w.heap.size + 1, 0, none⟩) := hk.same 3 (by simp)
    have c0 : w1.cell? ⟨w.heap.size, 0, none⟩ = some (.int .i64 t) := Below.keeps hk.ext _ _ (by simp [go_sem, hw])
    have c1 : w1.cell? ⟨w.heap.size, 1, none⟩ = some (.bool f) := Below.keeps hk.ext _ _ (by simp [go_sem, hw])
    have c2 : w1.cell? ⟨w.heap.size, 2, none⟩ = some (.int .i64 x) := Below.keeps hk.ext _ _ (by simp [go_sem, hw])
    have c3 : w1.cell? ⟨w.heap.size, 3, none⟩ = some (.int .i64 y) := Below.keeps hk.ext _ _ (by simp [go_sem, hw])
    have c4 : w1.cell? ⟨w.heap.size + 1, 0, none⟩ = some (.int .i64 u) := Below.keeps hk.ext _ _ (by simp [go_sem, hw])
    have c5 : w1.cell? ⟨w.heap.size + 1, 1, none⟩ = some (.bool true) := Below.keeps hk.ext _ _ (by simp [go_sem, hw])
    have c6 : w1.cell? ⟨w.heap.size + 1, 2, none⟩ = some (.int .i64 a) := Below.keeps hk.ext _ _ (by simp [go_sem, hw])
    have c7 : w1.cell? ⟨w.heap.size + 1, 3, none⟩ = some (.int .i64 b) := Below.keeps hk.ext _ _ (by simp [go_sem, hw])
    simp [Region.wanted, Oper.wp, Act.eval, go_sem, e3, c0, c1, c2, c3, c4, c5, c6, c7, hw]
    exact hK _ _ (Below.refl _ _) rfl
    | 10, _ =>
    obtain rfl := Option.some.inj ho
    intro a1 w1 K hk hK
    have e2 : a1.tmps.getD 2 undef = .pointer (some ⟨w.heap.size, 0, none⟩) := hk.same 2 (by simp)
    have c0 : w1.cell? ⟨w.heap.size, 0, none⟩ = some (.int .i64 t) := Below.keeps hk.ext _ _ (by simp [go_sem, hw])
    have c1 : w1.cell? ⟨w.heap.size, 1, none⟩ = some (.bool f) := Below.keeps hk.ext _ _ (by simp [go_sem, hw])
    have c2 : w1.cell? ⟨w.heap.size, 2, none⟩ = some (.int .i64 x) := Below.keeps hk.ext _ _ (by simp [go_sem, hw])
    have c3 : w1.cell? ⟨w.heap.size, 3, none⟩ = some (.int .i64 y) := Below.keeps hk.ext _ _ (by simp [go_sem, hw])
    have c4 : w1.cell? ⟨w.heap.size + 1, 0, none⟩ = some (.int .i64 u) := Below.keeps hk.ext _ _ (by simp [go_sem, hw])
    have c5 : w1.cell? ⟨w.heap.size + 1, 1, none⟩ = some (.bool true) := Below.keeps hk.ext _ _ (by simp [go_sem, hw])
    have c6 : w1.cell? ⟨w.heap.size + 1, 2, none⟩ = some (.int .i64 a) := Below.keeps hk.ext _ _ (by simp [go_sem, hw])
    have c7 : w1.cell? ⟨w.heap.size + 1, 3, none⟩ = some (.int .i64 b) := Below.keeps hk.ext _ _ (by simp [go_sem, hw])
    simp [Region.wanted, Oper.wp, Act.eval, go_sem, e2, c0, c1, c2, c3, c4, c5, c6, c7, hw]
    exact hK _ _ (Below.refl _ _) rfl
    | 11, _ =>
    obtain rfl := Option.some.inj ho
    intro a1 w1 K hk hK
    have d33 : a1.tmps.getD 33 undef = Mo t f x y := hk.deps ⟨10, .data⟩ (by simp) rfl _ _ rfl rfl
    simp [Region.wanted, Oper.wp, Act.eval, go_sem, d33, hw]
    refine (shift_any t f x y _).mono ?_
    rintro e w2 ⟨rfl, rfl⟩
    exact hK _ _ (by repeat (first | exact Below.refl _ _ | assumption | (refine Below.drew ?_) | (refine below_drewN' ?_ _) | (refine Below.alloc ?_ (by first | exact Nat.le_refl _ | (simp; done) | (simp; omega)) _))) rfl
    | 12, _ =>
    obtain rfl := Option.some.inj ho
    intro a1 w1 K hk hK
    have d32 : a1.tmps.getD 32 undef = Mo u true a b := hk.deps ⟨9, .data⟩ (by simp) rfl _ _ rfl rfl
    have D34 : (a1.tmps.getD 34 undef) = .complex .f64 (floatOfInt .f64 x) (floatOfInt .f64 y) := hk.deps ⟨11, .data⟩ (by simp) rfl _ _ rfl rfl
    replace D34 : a1.tmps.getD 34 undef = .complex .f64 (floatOfInt .f64 x) (floatOfInt .f64 y) := D34
    simp [Region.wanted, Oper.wp, Act.eval, go_sem, d32, D34]
    refine (H1.out _).mono ?_
    rintro e w2 ⟨r, i, rfl, rfl, g1, g2⟩
    exact hK _ _ (by repeat (first | exact Below.refl _ _ | assumption | (refine Below.drew ?_) | (refine below_drewN' ?_ _) | (refine Below.alloc ?_ (by first | exact Nat.le_refl _ | (simp; done) | (simp; omega)) _))) (CV.mk r i rfl g1 g2)
    | 13, _ =>
    obtain rfl := Option.some.inj ho
    intro a1 w1 K hk hK
    have d26 : a1.tmps.getD 26 undef = .int .i64 (-t + u) := hk.deps ⟨3, .data⟩ (by simp) rfl _ _ rfl rfl
    have d31 : a1.tmps.getD 31 undef = .bool (!f) := hk.deps ⟨8, .data⟩ (by simp) rfl _ _ rfl rfl
    have D35 : CV (a1.tmps.getD 35 undef) (Pl.turnX u true x y + a) (Pl.turnY u true x y + b) := hk.deps ⟨12, .data⟩ (by simp) rfl _ _ rfl rfl
    rcases D35 with ⟨r, i, D38, g1, g2⟩
    simp [Region.wanted, Oper.wp, Act.eval, go_sem, d26, d31, D38]
    refine (H2.out _ r i g1 g2).mono ?_
    rintro e w2 ⟨rfl, rfl⟩
    exact hK _ _ (by repeat (first | exact Below.refl _ _ | assumption | (refine Below.drew ?_) | (refine below_drewN' ?_ _) | (refine Below.alloc ?_ (by first | exact Nat.le_refl _ | (simp; done) | (simp; omega)) _))) rfl
    | 14, _ =>
    obtain rfl := Option.some.inj ho
    intro a1 w1 K hk hK
    have hsz := hk.ext.size
    simp [Region.wanted, Oper.wp, Act.eval, go_sem, hw]
    exact hK _ _ (by repeat (first | exact Below.refl _ _ | assumption | (refine Below.drew ?_) | (refine below_drewN' ?_ _) | (refine Below.alloc ?_ (by first | exact Nat.le_refl _ | (simp; done) | (simp; omega)) _))) ⟨w1.heap.size, rfl, by simp at hsz; omega, heap_alloc_new _ _⟩
  · intro vs w3 hl hb3 hv
    match vs, hl with
    | [v0, v1, v2, v3, v4, v5, v6, v7, v8, v9, v10, v11, v12, v13, v14], _ =>
    obtain rfl : v0 = .int .i64 (-t) := hv 0 (by omega)
    obtain rfl : v1 = .pointer (some ⟨w.heap.size + 1, 0, none⟩) := hv 1 (by omega)
    obtain rfl : v2 = .int .i64 u := hv 2 (by omega)
    obtain rfl : v3 = .int .i64 (-t + u) := hv 3 (by omega)
    obtain rfl : v4 = .pointer (some ⟨w.heap.size, 1, none⟩) := hv 4 (by omega)
    obtain rfl : v5 = .bool f := hv 5 (by omega)
    obtain rfl : v6 = .pointer (some ⟨w.heap.size + 1, 1, none⟩) := hv 6 (by omega)
    obtain rfl : v7 = .bool true := hv 7 (by omega)
    obtain rfl : v8 = .bool (!f) := hv 8 (by omega)
    obtain rfl : v9 = Mo u true a b := hv 9 (by omega)
    obtain rfl : v10 = Mo t f x y := hv 10 (by omega)
    have q11 : v11 = .complex .f64 (floatOfInt .f64 x) (floatOfInt .f64 y) := hv 11 (by omega)
    have q12 : CV v12 (Pl.turnX u true x y + a) (Pl.turnY u true x y + b) := hv 12 (by omega)
    have q13 : v13 = Mo ((-t + u) % 4) (!f) (Pl.turnX u true x y + a) (Pl.turnY u true x y + b) := hv 13 (by omega)
    have q14 : ∃ g, v14 = .pointer (some ⟨g, 0, none⟩) ∧ w.heap.size + 3 ≤ g ∧ w3.heap[g]? = some (MoB 0 false 0 0) := hv 14 (by omega)
    clear hv
    clear hw
    obtain ⟨g, rfl, hg1, hg2⟩ := q14
    obtain rfl : v11 = _ := q11
    obtain rfl : v13 = _ := q13
    clear q12
    simp only [putAll, List.take_succ_cons, List.take_zero, List.drop_succ_cons, List.drop_zero, Act.put, List.setIfInBounds_toArray, List.set_cons_succ, List.set_cons_zero]
    have hBB : Below w.heap.size w w3 := below_trans (by repeat (first | exact Below.refl _ _ | assumption | (refine Below.drew ?_) | (refine below_drewN' ?_ _) | (refine Below.alloc ?_ (by first | exact Nat.le_refl _ | (simp; done) | (simp; omega)) _))) hb3
    have hglt : g < w3.heap.size := (Array.getElem?_eq_some_iff.1 hg2).1
    have hg0 : w3.cell? ⟨g, 0, none⟩ = some (.int .i64 0) := by simp [World.cell?, hg2]
    have hg3 : w3.cell? ⟨g, 1, none⟩ = some (.bool false) := by simp [World.cell?, hg2]
    have hg4 : w3.cell? ⟨g, 2, none⟩ = some (.int .i64 0) := by simp [World.cell?, hg2]
    have hg5 : w3.cell? ⟨g, 3, none⟩ = some (.int .i64 0) := by simp [World.cell?, hg2]
    have hgf : ∀ k, w3.frozen? ⟨g, k, none⟩ = false := by intro k; simp [World.frozen?, hg2]
    have r0 : w3.cell? ⟨w.heap.size + 1 + 1, 0, none⟩ = some (.int .i64 0) := Below.keeps hb3 _ _ (by simp [go_sem])
    have r1 : w3.cell? ⟨w.heap.size + 1 + 1, 1, none⟩ = some (.bool false) := Below.keeps hb3 _ _ (by simp [go_sem])
    have r2 : w3.cell? ⟨w.heap.size + 1 + 1, 2, none⟩ = some (.int .i64 0) := Below.keeps hb3 _ _ (by simp [go_sem])
    have r3 : w3.cell? ⟨w.heap.size + 1 + 1, 3, none⟩ = some (.int .i64 0) := Below.keeps hb3 _ _ (by simp [go_sem])
    have rf : ∀ k, w3.frozen? ⟨w.heap.size + 1 + 1, k, none⟩ = false := by intro k; rw [hb3.frozen (by first | (simp; done) | (simp; omega))]; simp [go_sem]
    have hne : ¬ g = w.heap.size + 1 + 1 := by omega
    have hne2 : ¬ w.heap.size + 1 + 1 = g := by omega
    clear hb3 hg2
    go_wp2_with fail
    have hB5 : Below w.heap.size w ((((w3.setCell ⟨g, 0, none⟩ (.int .i64 ((-t + u) % 4))).setCell ⟨g, 1, none⟩ (.bool (!f))).setCell ⟨g, 2, none⟩ (.int .i64 (Pl.turnX u true x y + a))).setCell ⟨g, 3, none⟩ (.int .i64 (Pl.turnY u true x y + b))) := (((hBB.setCell (show w.heap.size ≤ g by omega) _).setCell (show w.heap.size ≤ g by omega) _).setCell (show w.heap.size ≤ g by omega) _).setCell (show w.heap.size ≤ g by omega) _
    have W := after_sets w3 (w.heap.size + 1 + 1) g hne2 (.int .i64 ((-t + u) % 4)) (.bool (!f)) (.int .i64 (Pl.turnX u true x y + a)) (.int .i64 (Pl.turnY u true x y + b)) r0 r1 r2 r3 rf hg0 hg3 hg4 hg5 hgf
    generalize ((((w3.setCell ⟨g, 0, none⟩ (.int .i64 ((-t + u) % 4))).setCell ⟨g, 1, none⟩ (.bool (!f))).setCell ⟨g, 2, none⟩ (.int .i64 (Pl.turnX u true x y + a))).setCell ⟨g, 3, none⟩ (.int .i64 (Pl.turnY u true x y + b))) = w4 at *
    obtain ⟨r0, r1, r2, r3, rf, g0, g1, g2, g3, gf⟩ := W
    have hr4 := World.block_lt_of_cell? w4 _ r0
    have hg4 := World.block_lt_of_cell? w4 _ g0
    simp only at hr4 hg4
    clear hg0 hg3 hg5 hgf hBB hglt
    refine (Right_any _ _ _ _ _).mono ?_
    rintro e w' ⟨rfl, rfl⟩
    cases hm : Pl.rightB ((-t + u) % 4) (Pl.turnX u true x y + a) (Pl.turnY u true x y + b)
    · go_wp2_with fail
      all_goals exact bodyPost_ret (v := .tuple #[Mz, .int .i64 11]) (by simp [results, Try.results22, go_sem, r0, r1, r2, r3, rf, hr4]) rfl ⟨rfl, (by repeat (first | exact Below.refl _ _ | assumption | (refine Below.drew ?_) | (refine Below.setCell ?_ (show w.heap.size ≤ _ by simp; omega) _) | (refine Below.alloc ?_ (by simp; omega) _)))⟩
    · go_wp2_with fail
      all_goals exact bodyPost_ret (v := .tuple #[Mo ((-t + u) % 4) (!f) (Pl.turnX u true x y + a) (Pl.turnY u true x y + b), .int .i64 0]) (by simp [results, Try.results22, go_sem, r0, r1, r2, r3, rf, hr4]) rfl ⟨rfl, (by repeat (first | exact Below.refl _ _ | assumption | (refine Below.drew ?_) | (refine Below.setCell ?_ (show w.heap.size ≤ _ by simp; omega) _) | (refine Below.alloc ?_ (by simp; omega) _)))⟩


theorem Then_no1 (t : Int) (f : Bool) (x y u : Int) (g : Bool) (a b : Int) (w : World) (hr : Pl.rightB t x y = false) :
    Calls Try.prog 22 #[Mo t f x y, Mo u g a b] w fun e w' => e = .returned (.tuple #[Mz, .int .i64 3]) ∧ Below w.heap.size w w' := by
  go_enter Try.func22, Try.ntmps22
  go_wp2_with fail
  refine (Right_any t f x y _).mono ?_
  rintro e w' ⟨rfl, rfl⟩
  go_wp2_with fail
  exact bodyPost_ret (v := .tuple #[Mz, .int .i64 3]) (by simp [results, Try.results22, go_sem]) rfl ⟨rfl, (by repeat (first | exact Below.refl _ _ | assumption | (refine Below.drew ?_) | (refine below_drewN' ?_ _) | (refine Below.alloc ?_ (by first | exact Nat.le_refl _ | (simp; done) | (simp; omega)) _)))⟩

set_option maxHeartbeats 400000 in
theorem Then_no2 (t : Int) (f : Bool) (x y u : Int) (g : Bool) (a b : Int) (w : World) (hr : Pl.rightB t x y = true) (hs : Pl.rightB u a b = false) :
    Calls Try.prog 22 #[Mo t f x y, Mo u g a b] w fun e w' => e = .returned (.tuple #[Mz, .int .i64 3]) ∧ Below w.heap.size w w' := by
  go_enter Try.func22, Try.ntmps22
  go_wp2_with fail
  refine (Right_any t f x y _).mono ?_
  rintro e w' ⟨rfl, rfl⟩
  go_wp2_with fail
  refine (Right_any u g a b _).mono ?_
  rintro e w' ⟨rfl, rfl⟩
  go_wp2_with fail
  exact bodyPost_ret (v := .tuple #[Mz, .int .i64 3]) (by simp [results, Try.results22, go_sem]) rfl ⟨rfl, (by repeat (first | exact Below.refl _ _ | assumption | (refine Below.drew ?_) | (refine below_drewN' ?_ _) | (refine Below.alloc ?_ (by first | exact Nat.le_refl _ | (simp; done) | (simp; omega)) _)))⟩

/-- what 'Then' tells -/
def thenV (t : Int) (f : Bool) (x y u : Int) (g : Bool) (a b : Int) : Value × Int :=
  if Pl.rightB t x y = false then (Mz, 3) else if Pl.rightB u a b = false then (Mz, 3) else
  if Pl.rightB (Pl.thenT t u g) (Pl.thenX u g a x y) (Pl.thenY u g b x y) = true then (Mo (Pl.thenT t u g) (f != g) (Pl.thenX u g a x y) (Pl.thenY u g b x y), 0) else (Mz, 11)

theorem Then_any (t : Int) (f : Bool) (x y u : Int) (g : Bool) (a b : Int) (w : World) :
    Calls Try.prog 22 #[Mo t f x y, Mo u g a b] w fun e w' => e = .returned (.tuple #[(thenV t f x y u g a b).1, .int .i64 (thenV t f x y u g a b).2]) ∧ Below w.heap.size w w' := by
  unfold thenV
  cases hr : Pl.rightB t x y with
  | false => exact Then_no1 t f x y u g a b w hr
  | true =>
    cases hs : Pl.rightB u a b with
    | false => exact Then_no2 t f x y u g a b w hr hs
    | true =>
      simp only [Bool.true_eq_false, if_false]
      cases g with
      | true =>
        refine (Then_flip t f x y u a b w hr hs).mono ?_
        rintro e w' ⟨rfl, hb⟩
        refine ⟨?_, hb⟩
        unfold Pl.thenT Pl.thenX Pl.thenY
        simp only [if_true, Bool.bne_true]
        split <;> rfl
      | false =>
        refine (Then_plain t f x y u a b w hr hs).mono ?_
        rintro e w' ⟨rfl, hb⟩
        refine ⟨?_, hb⟩
        unfold Pl.thenT Pl.thenX Pl.thenY
        simp only [Bool.false_eq_true, if_false, Bool.bne_false]
        split <;> rfl

end Go.Proofs.Ytlmgabhdeeehmaa
