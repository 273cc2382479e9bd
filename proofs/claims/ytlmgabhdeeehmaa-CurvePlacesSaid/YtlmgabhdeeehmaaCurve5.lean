/-
  The walks of package curve: place, of a point.
-/
import Derived.Test.YtlmgabhdeeehmaaCurve3
import Derived.ScopeJumps
import Derived.WalkMore
namespace Go.Proofs.Ytlmgabhdeeehmaa
open Go.RowKit
set_option linter.unusedVariables false

/-- at the label: so much is done -/
structure PlaceAt (n : Nat) (x y : Int) (N xr xi : Nat) (X Y out : Int) : Prop where
  le20 : n ≤ 20
  leN : N ≤ n
  vx : Fl.Val xr X
  vy : Fl.Val xi Y
  rx : 0 ≤ X ∧ X < Cv.S N
  ry : 0 ≤ Y ∧ Y < Cv.S N
  ro : 0 ≤ out
  tot : out * Cv.Q N + Cv.pl N X Y = Cv.pl n x y
  small : Cv.pl n x y < Cv.Q n
theorem PlaceAt.done {n N xr xi : Nat} {x y X Y out : Int} (h : PlaceAt n x y N xr xi X Y out) (hN : N = 0) : out = Cv.pl n x y := by
  subst hN
  have := h.tot
  simpa [Cv.Q, Cv.pl] using this
theorem PlaceAt.le {n k xr xi : Nat} {x y X Y out : Int} (h : PlaceAt n x y (k + 1) xr xi X Y out) : k < 20 := by have := h.le20; have := h.leN; omega

theorem wp_scope_jumps1 {P : Program} {a : Act} {w : World} {Q : Exit → Act → World → Prop} {c rest : Code} (l : Nat) (J : Act → World → Prop) (μ : Act → World → Nat) (hf : findLabel c l = some (Code.skip.seq rest))
    (pass : ∀ a w, J a w → rest.wp P (Exit.jump l (fun a' w' => J a' w' ∧ μ a' w' < μ a w) Q) a w)
    (first : ∀ Q', (∀ a w, J a w → rest.wp P Q' a w) → c.wp P Q' a w) : (Code.scope c).wp P Q a w :=
  wp_scope_jumps l J μ hf (first _ fun a w hJ => wp_mono (pass a w hJ) (by
    intro e a' w' h
    cases e
    case goto l' => exact ⟨h.1, h.2.1⟩
    all_goals exact h)) (fun a w hJ => wp_seq (wp_skip (pass a w hJ)))

theorem place_round (k B : Nat) (wr : World) (xr xi : Nat) (X Y : Int) (hk : k < 20) (rx : 0 ≤ X ∧ X < 2 * Cv.S k) (ry : 0 ≤ Y ∧ Y < 2 * Cv.S k)
    (g1 : Fl.Val xr X) (g2 : Fl.Val xi Y)
    (c0 : wr.cell? ⟨B, 0, none⟩ = some (QCells.getD 0 undef)) (c1 : wr.cell? ⟨B, 1, none⟩ = some (QCells.getD 1 undef)) (c2 : wr.cell? ⟨B, 2, none⟩ = some (QCells.getD 2 undef))
    (c3 : wr.cell? ⟨B, 3, none⟩ = some (QCells.getD 3 undef)) (c4 : wr.cell? ⟨B, 4, none⟩ = some (QCells.getD 4 undef)) (c5 : wr.cell? ⟨B, 5, none⟩ = some (QCells.getD 5 undef))
    (c6 : wr.cell? ⟨B, 6, none⟩ = some (QCells.getD 6 undef)) (c7 : wr.cell? ⟨B, 7, none⟩ = some (QCells.getD 7 undef)) :
    ∃ q : Nat, q < 4 ∧ Cv.quar (Cv.S k) X Y = q ∧ ∃ cr ci f mr mi sr si tr ti : Nat, wr.cell? ⟨B, q * 2, none⟩ = some (.complex .f64 cr ci) ∧ wr.cell? ⟨B, q * 2 + 1, none⟩ = some (.func (.func f) #[] #[]) ∧
      (∀ args w, (callFunc f args).run Try.prog w = .ok (.enter f args) w) ∧
      cMulBits cr ci (floatOfInt .f64 (Cv.S k)) 0 = some (mr, mi) ∧ cSumBits .sub .f64 xr xi mr mi = some (sr, si) ∧
      (∀ w, Calls Try.prog f #[.complex .f64 sr si, .float .f64 (floatOfInt .f64 (Cv.S k))] w fun e w' => e = .returned (.complex .f64 tr ti) ∧ w' = w) ∧
      Fl.Val tr (Cv.down (Cv.S k) X Y).1 ∧ Fl.Val ti (Cv.down (Cv.S k) X Y).2 := by
  have hSp := Cv.S_le (show k ≤ 20 by omega)
  have vS := Val.ofInt (n := Cv.S k) (abs_lt _ (by omega))
  by_cases h1 : X < Cv.S k
  · by_cases h2 : Y < Cv.S k
    · refine ⟨0, by omega, by unfold Cv.quar; rw [if_pos h1, if_pos h2]; rfl, ?_⟩
      obtain ⟨mr, mi, em, v1, v2⟩ := Val.cmul Val.zero Val.zero vS Val.zero (abs_lt _ (by omega)) (abs_lt _ (by omega)) (abs_lt _ (by omega)) (abs_lt _ (by omega)) (abs_lt _ (by omega)) (abs_lt _ (by omega))
      obtain ⟨sr, si, es, z1, z2⟩ := Val.csub g1 g2 v1 v2 (abs_lt _ (by omega)) (abs_lt _ (by omega))
      refine ⟨_, _, 181, _, _, sr, si, si, sr, c0, c1, enters_lit Try.func181 (by kernel_rfl) (by kernel_rfl), em, es, fun w => swapped_any _ _ _ w, ?_, ?_⟩
      · refine Eq.mp (congrArg _ ?_) z2
        show _ = (Cv.down (Cv.S k) X Y).1
        simp only [Cv.down, if_pos h1, if_pos h2]; omega
      · refine Eq.mp (congrArg _ ?_) z1
        show _ = (Cv.down (Cv.S k) X Y).2
        simp only [Cv.down, if_pos h1, if_pos h2]; omega
    · refine ⟨1, by omega, by unfold Cv.quar; rw [if_pos h1, if_neg h2]; rfl, ?_⟩
      obtain ⟨mr, mi, em, v1, v2⟩ := Val.cmul Val.zero one_val vS Val.zero (abs_lt _ (by omega)) (abs_lt _ (by omega)) (abs_lt _ (by omega)) (abs_lt _ (by omega)) (abs_lt _ (by omega)) (abs_lt _ (by omega))
      obtain ⟨sr, si, es, z1, z2⟩ := Val.csub g1 g2 v1 v2 (abs_lt _ (by omega)) (abs_lt _ (by omega))
      refine ⟨_, _, 182, _, _, sr, si, sr, si, c2, c3, enters_lit Try.func182 (by kernel_rfl) (by kernel_rfl), em, es, fun w => same_any _ _ _ w, ?_, ?_⟩
      · refine Eq.mp (congrArg _ ?_) z1
        show _ = (Cv.down (Cv.S k) X Y).1
        simp only [Cv.down, if_pos h1, if_neg h2]; omega
      · refine Eq.mp (congrArg _ ?_) z2
        show _ = (Cv.down (Cv.S k) X Y).2
        simp only [Cv.down, if_pos h1, if_neg h2]; omega
  · by_cases h2 : Cv.S k ≤ Y
    · refine ⟨2, by omega, by unfold Cv.quar; rw [if_neg h1, if_pos h2]; rfl, ?_⟩
      obtain ⟨mr, mi, em, v1, v2⟩ := Val.cmul one_val one_val vS Val.zero (abs_lt _ (by omega)) (abs_lt _ (by omega)) (abs_lt _ (by omega)) (abs_lt _ (by omega)) (abs_lt _ (by omega)) (abs_lt _ (by omega))
      obtain ⟨sr, si, es, z1, z2⟩ := Val.csub g1 g2 v1 v2 (abs_lt _ (by omega)) (abs_lt _ (by omega))
      refine ⟨_, _, 182, _, _, sr, si, sr, si, c4, c5, enters_lit Try.func182 (by kernel_rfl) (by kernel_rfl), em, es, fun w => same_any _ _ _ w, ?_, ?_⟩
      · refine Eq.mp (congrArg _ ?_) z1
        show _ = (Cv.down (Cv.S k) X Y).1
        simp only [Cv.down, if_neg h1, if_pos h2]; omega
      · refine Eq.mp (congrArg _ ?_) z2
        show _ = (Cv.down (Cv.S k) X Y).2
        simp only [Cv.down, if_neg h1, if_pos h2]; omega
    · refine ⟨3, by omega, by unfold Cv.quar; rw [if_neg h1, if_neg h2]; rfl, ?_⟩
      obtain ⟨mr, mi, em, v1, v2⟩ := Val.cmul one_val Val.zero vS Val.zero (abs_lt _ (by omega)) (abs_lt _ (by omega)) (abs_lt _ (by omega)) (abs_lt _ (by omega)) (abs_lt _ (by omega)) (abs_lt _ (by omega))
      obtain ⟨sr, si, es, z1, z2⟩ := Val.csub g1 g2 v1 v2 (abs_lt _ (by omega)) (abs_lt _ (by omega))
      obtain ⟨d, ed, vd⟩ := Val.fsub vS one_val (abs_lt _ (by omega))
      obtain ⟨tr, ti, et, u1, u2⟩ := Val.csub vd vd z2 z1 (abs_lt _ (by omega)) (abs_lt _ (by omega))
      refine ⟨_, _, 183, _, _, sr, si, tr, ti, c6, c7, enters_lit Try.func183 (by kernel_rfl) (by kernel_rfl), em, es, fun w => turned_bits _ _ _ d tr ti w ed et, ?_, ?_⟩
      · refine Eq.mp (congrArg _ ?_) u1
        show _ = (Cv.down (Cv.S k) X Y).1
        simp only [Cv.down, if_neg h1, if_neg h2]; omega
      · refine Eq.mp (congrArg _ ?_) u2
        show _ = (Cv.down (Cv.S k) X Y).2
        simp only [Cv.down, if_neg h1, if_neg h2]; omega

theorem or_low {a : Int} {q : Nat} (h : 0 ≤ a) (h' : a < 1099511627776) (hq : q < 4) : bits .or .u64 (a * 4) (q : Int) = a * 4 + q := by
  obtain ⟨n, rfl⟩ : ∃ n : Nat, a = n := ⟨a.toNat, by omega⟩
  rw [show (n : Int) * 4 = ((n * 4 : Nat) : Int) by omega, bits_or_u64_nat _ _ (by omega) (by omega)]
  have := Nat.two_pow_add_eq_or_of_lt (i := 2) hq n
  rw [show n * 4 = 2 ^ 2 * n by omega, ← this]; omega
theorem wrap_u64 {a : Int} (h : 0 ≤ a) (h' : a < 18446744073709551616) : IntKind.u64.wrap a = a := by
  unfold IntKind.wrap; simp [IntKind.bits, IntKind.signed]; omega
theorem Cv.Q_le {k : Nat} (h : k ≤ 20) : Cv.Q k ≤ 1099511627776 := by
  rw [← Cv.SS]
  have := Cv.S_le h
  have := Cv.S_pos k
  exact Int.le_trans (b := Cv.S k * 1048576) (Int.mul_le_mul_of_nonneg_left (by omega) (by omega)) (by omega)

theorem PlaceAt.next {n k xr xi : Nat} {x y X Y out : Int} (wr : World) (B : Nat) (h : PlaceAt n x y (k + 1) xr xi X Y out)
    (c0 : wr.cell? ⟨B, 0, none⟩ = some (QCells.getD 0 undef)) (c1 : wr.cell? ⟨B, 1, none⟩ = some (QCells.getD 1 undef)) (c2 : wr.cell? ⟨B, 2, none⟩ = some (QCells.getD 2 undef))
    (c3 : wr.cell? ⟨B, 3, none⟩ = some (QCells.getD 3 undef)) (c4 : wr.cell? ⟨B, 4, none⟩ = some (QCells.getD 4 undef)) (c5 : wr.cell? ⟨B, 5, none⟩ = some (QCells.getD 5 undef))
    (c6 : wr.cell? ⟨B, 6, none⟩ = some (QCells.getD 6 undef)) (c7 : wr.cell? ⟨B, 7, none⟩ = some (QCells.getD 7 undef)) :
    ∃ q cr ci f mr mi sr si tr ti : Nat, q < 4 ∧ wr.cell? ⟨B, q * 2, none⟩ = some (.complex .f64 cr ci) ∧ wr.cell? ⟨B, q * 2 + 1, none⟩ = some (.func (.func f) #[] #[]) ∧
      (∀ args w, (callFunc f args).run Try.prog w = .ok (.enter f args) w) ∧
      cMulBits cr ci (floatOfInt .f64 (Cv.S k)) 0 = some (mr, mi) ∧ cSumBits .sub .f64 xr xi mr mi = some (sr, si) ∧
      (∀ w, Calls Try.prog 133 #[.complex .f64 xr xi, .float .f64 (floatOfInt .f64 (Cv.S k))] w fun e w' => e = .returned (.int .i64 q) ∧ Below w.heap.size w w') ∧
      (∀ w, Calls Try.prog f #[.complex .f64 sr si, .float .f64 (floatOfInt .f64 (Cv.S k))] w fun e w' => e = .returned (.complex .f64 tr ti) ∧ w' = w) ∧
      PlaceAt n x y k tr ti (Cv.down (Cv.S k) X Y).1 (Cv.down (Cv.S k) X Y).2 (out * 4 + q) ∧
      IntKind.u64.wrap (q : Int) = q ∧ IntKind.u64.wrap (out * 4) = out * 4 ∧ bits .or .u64 (out * 4) q = out * 4 + q := by
  have hk := h.le
  have hx := h.rx
  have hy := h.ry
  rw [Cv.S_succ] at hx hy
  have hd := Cv.down_range hx hy
  obtain ⟨q, hq4, hq, cr, ci, f, mr, mi, sr, si, tr, ti, b0, b1, HE, em, es, ET, z1, z2⟩ := place_round k B wr xr xi X Y hk hx hy h.vx h.vy c0 c1 c2 c3 c4 c5 c6 c7
  have hS := Cv.S_le (show k ≤ 20 by omega)
  have hSp := Cv.S_pos k
  have hQp := Cv.Q_pos k
  have htot : (out * 4 + q) * Cv.Q k + Cv.pl k (Cv.down (Cv.S k) X Y).1 (Cv.down (Cv.S k) X Y).2 = Cv.pl n x y := by
    rw [← h.tot, Cv.Q_succ]
    show _ = _ + (Cv.quar (Cv.S k) X Y * Cv.Q k + Cv.pl k _ _)
    rw [hq, Int.add_mul, Int.mul_assoc, Int.add_assoc]
  have hpl := Cv.pl_range k _ _ hd.1 hd.2
  have hbig : out < 1099511627776 := by
    have h1 := Cv.Q_le h.le20
    have h2 := h.small
    have h3 : (out * 4 + q) * 1 ≤ (out * 4 + q) * Cv.Q k := Int.mul_le_mul_of_nonneg_left (by omega) (by have := h.ro; omega)
    have := h.ro
    omega
  have ho := h.ro
  refine ⟨q, cr, ci, f, mr, mi, sr, si, tr, ti, hq4, b0, b1, HE, em, es, ?_, ET, ⟨h.le20, by have := h.leN; omega, z1, z2, hd.1, hd.2, by omega, htot, h.small⟩, wrap_u64 (by omega) (by omega), wrap_u64 (by omega) (by omega), or_low ho hbig hq4⟩
  intro w
  have := part_val w h.vx h.vy (Val.ofInt (n := Cv.S k) (abs_lt _ (by omega)))
  rw [hq] at this
  exact this

set_option maxRecDepth 100000 in
set_option maxHeartbeats 1000000 in
theorem place_any (n re im : Nat) (x y : Int) (w : World) (hn : n ≤ 20) (hx : 0 ≤ x ∧ x < Cv.S n) (hy : 0 ≤ y ∧ y < Cv.S n) (g1 : Fl.Val re x) (g2 : Fl.Val im y) :
    Calls Try.prog 79 #[.int .i64 n, .complex .f64 re im] w fun e w' => e = .returned (.int .u64 (Cv.pl n x y)) ∧ Below w.heap.size w w' := by
  have H0 : PlaceAt n x y n re im x y 0 := ⟨hn, Nat.le_refl _, g1, g2, hx, hy, by omega, by rw [Int.zero_mul, Int.zero_add], (Cv.pl_range n x y hx hy).2⟩
  clear hn hx hy g1 g2
  go_enter Try.func79, Try.ntmps79
  go_wp2_with fail
  refine wp_scope_jumps1 0 (fun a' w' => ∃ (N : Nat) (Ni : Int) (xr xi : Nat) (X Y out : Int) (u7 u8 u9 u11 u12 u13 u14 u15 u16 u17 u18 u19 u20 u21 u22 u23 u24 u25 u26 u27 u28 u29 u30 u31 u32 u33 u34 u35 u36 u37 u38 u39 u40 : Value), a' = { tmps := #[.int .i64 Ni, .complex .f64 xr xi, undef, undef, .int .u64 0, .int .u64 out, .pointer (some ⟨w.heap.size + 1, 0, none⟩), u7, u8, u9, .agg QCells, u11, u12, u13, u14, u15, u16, u17, u18, u19, u20, u21, u22, u23, u24, u25, u26, u27, u28, u29, u30, u31, u32, u33, u34, u35, u36, u37, u38, u39, u40], defers := [] } ∧ Ni = N ∧ PlaceAt n x y N xr xi X Y out ∧ Below w.heap.size w w' ∧ w.heap.size + 1 < w'.heap.size ∧ w'.cell? ⟨w.heap.size + 1, 0, none⟩ = some (QCells.getD 0 undef) ∧ w'.cell? ⟨w.heap.size + 1, 1, none⟩ = some (QCells.getD 1 undef) ∧ w'.cell? ⟨w.heap.size + 1, 2, none⟩ = some (QCells.getD 2 undef) ∧ w'.cell? ⟨w.heap.size + 1, 3, none⟩ = some (QCells.getD 3 undef) ∧ w'.cell? ⟨w.heap.size + 1, 4, none⟩ = some (QCells.getD 4 undef) ∧ w'.cell? ⟨w.heap.size + 1, 5, none⟩ = some (QCells.getD 5 undef) ∧ w'.cell? ⟨w.heap.size + 1, 6, none⟩ = some (QCells.getD 6 undef) ∧ w'.cell? ⟨w.heap.size + 1, 7, none⟩ = some (QCells.getD 7 undef)) (fun a' _ => (intOf (a'.tmps.getD 0 undef)).toNat) rfl ?_ ?_
  · rintro a' w' ⟨N, Ni, xr, xi, X, Y, out, u7, u8, u9, u11, u12, u13, u14, u15, u16, u17, u18, u19, u20, u21, u22, u23, u24, u25, u26, u27, u28, u29, u30, u31, u32, u33, u34, u35, u36, u37, u38, u39, u40, rfl, hNi, hJ⟩
    
    obtain ⟨hPA, HB, hsz, c0, c1, c2, c3, c4, c5, c6, c7⟩ := hJ
    by_cases hN : N = 0
    · have e0 : (Ni == 0) = true := by rw [hNi, hN]; rfl
      have HR := Lib.hid (PlaceAt.done hPA hN)
      have HB := Lib.hid HB
      clear hPA
      go_wp2_with fail
      simp only [Exit.jump]
      go_ret
      exact ⟨by rw [HR.out]; rfl, HB.out⟩
    · obtain ⟨k, rfl⟩ : ∃ k, N = k + 1 := ⟨N - 1, by omega⟩
      have hk20 := PlaceAt.le hPA
      have e0 : (Ni == 0) = false := by simp; omega
      have ew : wrap64 (Ni - 1) = (k : Int) := by unfold wrap64; omega
      have hS := shl_one k (by omega)
      obtain ⟨q, cr, ci, f, mr, mi, sr, si, tr, ti, hq4, b0, b1, HE, em, es, HP, ET, hPB, ecv, esl, eor⟩ := PlaceAt.next w' (w.heap.size + 1) hPA c0 c1 c2 c3 c4 c5 c6 c7
      have Em := fun (w : World) => run_complex_mul (P := Try.prog) w 24 _ _ _ _ _ _ em
      have Es := fun (w : World) => run_complex_sum (P := Try.prog) w .sub (.inr rfl) 24 .f64 _ _ _ _ _ _ es
      have hq0 : (0 : Int) ≤ q := by omega
      have hq3 : (q : Int) < 4 := by omega
      have C := Lib.hid (And.intro c0 (And.intro c1 (And.intro c2 (And.intro c3 (And.intro c4 (And.intro c5 (And.intro c6 c7)))))))
      have HPB := Lib.hid hPB
      have HB := Lib.hid HB
      have ET := Lib.hid ET
      have HP := Lib.hid HP
      have EQ := Lib.hid (And.intro hk20 (And.intro hNi hq4))
      clear c0 c1 c2 c3 c4 c5 c6 c7 em es hPA hPB hk20 hNi hq4
      go_wp2_with fail
      refine Calls.mono (HP.out _) ?_
      rintro e w5 ⟨rfl, hb5⟩
      have b0' := Below.keeps hb5 _ _ b0
      have b1' := Below.keeps hb5 _ _ b1
      have hs5 := hb5.size
      have h51 : w.heap.size + 1 < w5.heap.size := by omega
      have HB5 := Lib.hid hb5
      clear b0 b1 hb5 hs5
      go_wp2_with fail
      refine Calls.mono (ET.out _) ?_
      rintro e w6 ⟨rfl, rfl⟩
      go_wp2_with fail
      go_step3
      obtain ⟨hk20, hNi, hq4⟩ := EQ.out
      obtain ⟨c0, c1, c2, c3, c4, c5, c6, c7⟩ := C.out
      have hb5 := HB5.out
      have hb := HB.out.trans (hb5.mono HB.out.size)
      refine ⟨rfl, ⟨k, _, tr, ti, _, _, _, _, _, _, _, _, _, _, _, _, _, _, _, _, _, _, _, _, _, _, _, _, _, _, _, _, _, _, _, _, _, _, _, _, rfl, rfl, HPB.out, (by repeat (first | exact Below.refl _ _ | assumption | (refine Below.drew ?_) | (refine below_drewN' ?_ _) | (refine below_alloc' ?_ _))), by simp <;> omega, Below.keeps (w := w5) (by repeat (first | exact Below.refl _ _ | assumption | (refine Below.drew ?_) | (refine below_drewN' ?_ _) | (refine below_alloc' ?_ _))) _ _ (Below.keeps hb5 _ _ c0), Below.keeps (w := w5) (by repeat (first | exact Below.refl _ _ | assumption | (refine Below.drew ?_) | (refine below_drewN' ?_ _) | (refine below_alloc' ?_ _))) _ _ (Below.keeps hb5 _ _ c1), Below.keeps (w := w5) (by repeat (first | exact Below.refl _ _ | assumption | (refine Below.drew ?_) | (refine below_drewN' ?_ _) | (refine below_alloc' ?_ _))) _ _ (Below.keeps hb5 _ _ c2), Below.keeps (w := w5) (by repeat (first | exact Below.refl _ _ | assumption | (refine Below.drew ?_) | (refine below_drewN' ?_ _) | (refine below_alloc' ?_ _))) _ _ (Below.keeps hb5 _ _ c3), Below.keeps (w := w5) (by repeat (first | exact Below.refl _ _ | assumption | (refine Below.drew ?_) | (refine below_drewN' ?_ _) | (refine below_alloc' ?_ _))) _ _ (Below.keeps hb5 _ _ c4), Below.keeps (w := w5) (by repeat (first | exact Below.refl _ _ | assumption | (refine Below.drew ?_) | (refine below_drewN' ?_ _) | (refine below_alloc' ?_ _))) _ _ (Below.keeps hb5 _ _ c5), Below.keeps (w := w5) (by repeat (first | exact Below.refl _ _ | assumption | (refine Below.drew ?_) | (refine below_drewN' ?_ _) | (refine below_alloc' ?_ _))) _ _ (Below.keeps hb5 _ _ c6), Below.keeps (w := w5) (by repeat (first | exact Below.refl _ _ | assumption | (refine Below.drew ?_) | (refine below_drewN' ?_ _) | (refine below_alloc' ?_ _))) _ _ (Below.keeps hb5 _ _ c7)⟩, ?_⟩
      show ((k : Int)).toNat < Ni.toNat
      omega

  · intro Q' hR
    have hR := Lib.hid hR
    go_wp2_with fail
    refine (quarters_all _).mono ?_
    rintro e w' ⟨rfl, rfl⟩
    go_wp2_with fail
    go_step3
    simp only [Exit.then]
    rename_i hK
    refine hK _ _ ?_
    refine hR.out _ _ ?_
    exact ⟨n, _, re, im, _, _, 0, _, _, _, _, _, _, _, _, _, _, _, _, _, _, _, _, _, _, _, _, _, _, _, _, _, _, _, _, _, _, _, _, _, rfl, rfl, H0, (by repeat (first | exact Below.refl _ _ | assumption | (refine Below.drew ?_) | (refine below_drewN' ?_ _) | (refine below_alloc' ?_ _))), by simp, by simp [go_sem], by simp [go_sem], by simp [go_sem], by simp [go_sem], by simp [go_sem], by simp [go_sem], by simp [go_sem], by simp [go_sem]⟩
