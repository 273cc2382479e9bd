/-
  The walks of package curve: number, of a place.
-/
import Derived.Test.YtlmgabhdeeehmaaCurve2
import Derived.Laws.Bits64b
namespace Go.Proofs.Ytlmgabhdeeehmaa
open Go.RowKit
set_option linter.unusedVariables false

theorem Val.fsub {a b : Nat} {x y : Int} (ha : Fl.Val a x) (hb : Fl.Val b y) (h : (x - y).natAbs < 2 ^ 53) : ∃ r, floatBits .sub .f64 a b = some r ∧ Fl.Val r (x - y) := by
  obtain ⟨r, e, hr⟩ := Fl.sub_val ha hb h
  exact ⟨r, e, hr⟩
theorem shl_one (k : Nat) (h : k < 20) : IntKind.u64.wrap (2 ^ min k 64) = Cv.S k := by
  rw [Nat.min_eq_left (by omega)]
  have h1 : k = 0 ∨ k = 1 ∨ k = 2 ∨ k = 3 ∨ k = 4 ∨ k = 5 ∨ k = 6 ∨ k = 7 ∨ k = 8 ∨ k = 9 ∨ k = 10 ∨ k = 11 ∨ k = 12 ∨ k = 13 ∨ k = 14 ∨ k = 15 ∨ k = 16 ∨ k = 17 ∨ k = 18 ∨ k = 19 := by omega
  rcases h1 with rfl | rfl | rfl | rfl | rfl | rfl | rfl | rfl | rfl | rfl | rfl | rfl | rfl | rfl | rfl | rfl | rfl | rfl | rfl | rfl <;> decide
theorem wrap_two (k : Nat) (h : k < 20) : wrap64 (2 * (k : Int)) = ((2 * k : Nat) : Int) := by unfold wrap64; omega
theorem and_three {a : Int} (h : 0 ≤ a ∧ a < 18446744073709551616) : bits .and .u64 a 3 = a % 4 := by
  obtain ⟨n, rfl⟩ : ∃ n : Nat, a = n := ⟨a.toNat, by omega⟩
  rw [show (3 : Int) = ((3 : Nat) : Int) from rfl, bits_and_u64_nat _ _ (by omega) (by omega), show n &&& 3 = n % 2 ^ 2 from Nat.and_two_pow_sub_one_eq_mod n 2]
  omega
theorem div_Q_lt {p : Int} (k : Nat) (h : 0 ≤ p ∧ p < 18446744073709551616) : 0 ≤ p / Cv.Q k ∧ p / Cv.Q k < 18446744073709551616 :=
  have h1 : p / Cv.Q k ≤ p := Int.ediv_le_self _ h.1
  ⟨Int.ediv_nonneg h.1 (by have := Cv.Q_pos k; omega), by omega⟩
theorem Q_eq (k : Nat) : Cv.Q k = 2 ^ (2 * k) := by unfold Cv.Q; rw [Int.pow_mul]; rfl
theorem shr_two (p : Int) (k : Nat) (h : k < 20) : p / 2 ^ min (2 * k) 64 = p / Cv.Q k := by
  rw [Nat.min_eq_left (by omega), Q_eq]

theorem val_pt0 (p : Int) : Fl.Val 0 (Cv.pt 0 (p % Cv.Q 0)).1 := Val.zero
theorem val_pt0' (p : Int) : Fl.Val 0 (Cv.pt 0 (p % Cv.Q 0)).2 := Val.zero
theorem enters_lit {P : Program} {f : FuncId} {fn : Func} (hf : P.funcs[f]? = some fn) (hname : (fn.name == "runtime.NumGoroutine") = false) (hb : fn.body.isSome = true) (args : Array Value) (w : World) :
    (callFunc f args).run P w = .ok (.enter f args) w := by
  have h1 : fn.name ≠ "runtime.NumGoroutine" := by simpa using hname
  obtain ⟨c, hc⟩ := Option.isSome_iff_exists.1 hb
  simp [callFunc, hf, h1, hc]
theorem intOf_of {x y : Int} (h : x = y) : intOf (.int .i64 x) = y := h
/-- one round: whichever the quarter -/
theorem number_round (k q B : Nat) (wr : World) (zr zi : Nat) (X Y : Int) (hq : q < 4) (hk : k < 20) (hX : 0 ≤ X ∧ X < Cv.S k) (hY : 0 ≤ Y ∧ Y < Cv.S k)
    (g1 : Fl.Val zr X) (g2 : Fl.Val zi Y)
    (c0 : wr.cell? ⟨B, 0, none⟩ = some (QCells.getD 0 undef)) (c1 : wr.cell? ⟨B, 1, none⟩ = some (QCells.getD 1 undef)) (c2 : wr.cell? ⟨B, 2, none⟩ = some (QCells.getD 2 undef))
    (c3 : wr.cell? ⟨B, 3, none⟩ = some (QCells.getD 3 undef)) (c4 : wr.cell? ⟨B, 4, none⟩ = some (QCells.getD 4 undef)) (c5 : wr.cell? ⟨B, 5, none⟩ = some (QCells.getD 5 undef))
    (c6 : wr.cell? ⟨B, 6, none⟩ = some (QCells.getD 6 undef)) (c7 : wr.cell? ⟨B, 7, none⟩ = some (QCells.getD 7 undef)) :
    ∃ cr ci f tr ti mr mi ar ai : Nat, wr.cell? ⟨B, q * 2, none⟩ = some (.complex .f64 cr ci) ∧ wr.cell? ⟨B, q * 2 + 1, none⟩ = some (.func (.func f) #[] #[]) ∧
      (∀ args w, (callFunc f args).run Try.prog w = .ok (.enter f args) w) ∧
      (∀ w, Calls Try.prog f #[.complex .f64 zr zi, .float .f64 (floatOfInt .f64 (Cv.S k))] w fun e w' => e = .returned (.complex .f64 tr ti) ∧ w' = w) ∧
      cMulBits cr ci (floatOfInt .f64 (Cv.S k)) 0 = some (mr, mi) ∧ cSumBits .add .f64 tr ti mr mi = some (ar, ai) ∧
      Fl.Val ar (Cv.up (Cv.S k) q (X, Y)).1 ∧ Fl.Val ai (Cv.up (Cv.S k) q (X, Y)).2 := by
  have hSp := Cv.S_le (show k ≤ 20 by omega)
  have vS := Val.ofInt (n := Cv.S k) (abs_lt _ (by omega))
  rcases (show q = 0 ∨ q = 1 ∨ q = 2 ∨ q = 3 by omega) with rfl | rfl | rfl | rfl
  · obtain ⟨mr, mi, em, v1, v2⟩ := Val.cmul Val.zero Val.zero vS Val.zero (abs_lt _ (by omega)) (abs_lt _ (by omega)) (abs_lt _ (by omega)) (abs_lt _ (by omega)) (abs_lt _ (by omega)) (abs_lt _ (by omega))
    obtain ⟨ar, ai, ea, z1, z2⟩ := Val.cadd g2 g1 v1 v2 (abs_lt _ (by omega)) (abs_lt _ (by omega))
    refine ⟨_, _, 181, _, _, _, _, ar, ai, c0, c1, enters_lit Try.func181 (by kernel_rfl) (by kernel_rfl), fun w => swapped_any _ _ _ w, em, ea, ?_, ?_⟩
    · refine Eq.mp (congrArg _ ?_) z1
      show _ = (Cv.up (Cv.S k) 0 (X, Y)).1
      simp [Cv.up] <;> omega
    · refine Eq.mp (congrArg _ ?_) z2
      show _ = (Cv.up (Cv.S k) 0 (X, Y)).2
      simp [Cv.up] <;> omega
  · obtain ⟨mr, mi, em, v1, v2⟩ := Val.cmul Val.zero one_val vS Val.zero (abs_lt _ (by omega)) (abs_lt _ (by omega)) (abs_lt _ (by omega)) (abs_lt _ (by omega)) (abs_lt _ (by omega)) (abs_lt _ (by omega))
    obtain ⟨ar, ai, ea, z1, z2⟩ := Val.cadd g1 g2 v1 v2 (abs_lt _ (by omega)) (abs_lt _ (by omega))
    refine ⟨_, _, 182, _, _, _, _, ar, ai, c2, c3, enters_lit Try.func182 (by kernel_rfl) (by kernel_rfl), fun w => same_any _ _ _ w, em, ea, ?_, ?_⟩
    · refine Eq.mp (congrArg _ ?_) z1
      show _ = (Cv.up (Cv.S k) 1 (X, Y)).1
      simp [Cv.up] <;> omega
    · refine Eq.mp (congrArg _ ?_) z2
      show _ = (Cv.up (Cv.S k) 1 (X, Y)).2
      simp [Cv.up] <;> omega
  · obtain ⟨mr, mi, em, v1, v2⟩ := Val.cmul one_val one_val vS Val.zero (abs_lt _ (by omega)) (abs_lt _ (by omega)) (abs_lt _ (by omega)) (abs_lt _ (by omega)) (abs_lt _ (by omega)) (abs_lt _ (by omega))
    obtain ⟨ar, ai, ea, z1, z2⟩ := Val.cadd g1 g2 v1 v2 (abs_lt _ (by omega)) (abs_lt _ (by omega))
    refine ⟨_, _, 182, _, _, _, _, ar, ai, c4, c5, enters_lit Try.func182 (by kernel_rfl) (by kernel_rfl), fun w => same_any _ _ _ w, em, ea, ?_, ?_⟩
    · refine Eq.mp (congrArg _ ?_) z1
      show _ = (Cv.up (Cv.S k) 2 (X, Y)).1
      simp [Cv.up] <;> omega
    · refine Eq.mp (congrArg _ ?_) z2
      show _ = (Cv.up (Cv.S k) 2 (X, Y)).2
      simp [Cv.up] <;> omega
  · obtain ⟨mr, mi, em, v1, v2⟩ := Val.cmul one_val Val.zero vS Val.zero (abs_lt _ (by omega)) (abs_lt _ (by omega)) (abs_lt _ (by omega)) (abs_lt _ (by omega)) (abs_lt _ (by omega)) (abs_lt _ (by omega))
    obtain ⟨d, ed, vd⟩ := Val.fsub vS one_val (abs_lt _ (by omega))
    obtain ⟨tr, ti, et, u1, u2⟩ := Val.csub vd vd g2 g1 (abs_lt _ (by omega)) (abs_lt _ (by omega))
    obtain ⟨ar, ai, ea, z1, z2⟩ := Val.cadd u1 u2 v1 v2 (abs_lt _ (by omega)) (abs_lt _ (by omega))
    refine ⟨_, _, 183, _, _, _, _, ar, ai, c6, c7, enters_lit Try.func183 (by kernel_rfl) (by kernel_rfl), fun w => turned_bits zr zi _ d tr ti w ed et, em, ea, ?_, ?_⟩
    · refine Eq.mp (congrArg _ ?_) z1
      show _ = (Cv.up (Cv.S k) 3 (X, Y)).1
      simp [Cv.up] <;> omega
    · refine Eq.mp (congrArg _ ?_) z2
      show _ = (Cv.up (Cv.S k) 3 (X, Y)).2
      simp [Cv.up] <;> omega

set_option maxRecDepth 100000 in
set_option maxHeartbeats 1000000 in
theorem number_any (n : Nat) (p : Int) (w : World) (hn : n ≤ 20) (hp : 0 ≤ p ∧ p < 18446744073709551616) :
    Calls Try.prog 77 #[.int .i64 n, .int .u64 p] w fun e w' => ∃ r i, e = .returned (.complex .f64 r i) ∧ Fl.Val r (Cv.pt n (p % Cv.Q n)).1 ∧ Fl.Val i (Cv.pt n (p % Cv.Q n)).2 ∧ Below w.heap.size w w' := by
  have HN := Lib.hid hn
  have HP := Lib.hid hp
  clear hn hp
  go_enter Try.func77, Try.ntmps77
  go_wp2_with fail
  refine (quarters_all _).mono ?_
  rintro e w' ⟨rfl, rfl⟩
  go_wp2_with fail
  go_loopw [12, 5] (fun i z wr => ∃ k : Nat, k ≤ n ∧ i = .int .i64 k ∧ (∃ r j, z = .complex .f64 r j ∧ Fl.Val r (Cv.pt k (p % Cv.Q k)).1 ∧ Fl.Val j (Cv.pt k (p % Cv.Q k)).2) ∧
     Below w.heap.size w wr ∧ w.heap.size + 1 < wr.heap.size ∧
     (wr.cell? ⟨w.heap.size + 1, 0, none⟩ = some (QCells.getD 0 undef) ∧ wr.cell? ⟨w.heap.size + 1, 1, none⟩ = some (QCells.getD 1 undef) ∧ wr.cell? ⟨w.heap.size + 1, 2, none⟩ = some (QCells.getD 2 undef) ∧
      wr.cell? ⟨w.heap.size + 1, 3, none⟩ = some (QCells.getD 3 undef) ∧ wr.cell? ⟨w.heap.size + 1, 4, none⟩ = some (QCells.getD 4 undef) ∧ wr.cell? ⟨w.heap.size + 1, 5, none⟩ = some (QCells.getD 5 undef) ∧
      wr.cell? ⟨w.heap.size + 1, 6, none⟩ = some (QCells.getD 6 undef) ∧ wr.cell? ⟨w.heap.size + 1, 7, none⟩ = some (QCells.getD 7 undef)))
    (fun i z _ => n - (intOf i).toNat)
  case atStart =>
    refine ⟨0, Nat.zero_le _, rfl, ⟨_, _, rfl, val_pt0 p, val_pt0' p⟩, (by repeat (first | exact Below.refl _ _ | assumption | (refine Below.drew ?_) | (refine below_drewN' ?_ _) | (refine below_alloc' ?_ _))), ?_, ?_⟩
    · simp
    · refine ⟨?_, ?_, ?_, ?_, ?_, ?_, ?_, ?_⟩ <;> simp [go_sem]
  case round =>
    obtain ⟨k, hk, rfl, ⟨zr, zi, rfl, g1, g2⟩, hb, hsz, c0, c1, c2, c3, c4, c5, c6, c7⟩ := hrel
    have HB := Lib.hid hb
    clear hb
    by_cases hlt : k < n
    · have h3 : (k : Int) < n := by omega
      have h5 : (0 : Int) ≤ (k : Int) := by omega
      have hX := (Cv.pt_range k (p % Cv.Q k)).1
      have hY := (Cv.pt_range k (p % Cv.Q k)).2
      have HW := Lib.hid (show wrap64 ((k : Int) + 1) = ((k + 1 : Nat) : Int) by have := HN.out; unfold wrap64; omega)
      have hS := shl_one k (by have := HN.out; omega)
      obtain ⟨m, hm⟩ : ∃ m, m = 2 * k := ⟨_, rfl⟩
      have hw := wrap_two k (by have := HN.out; omega)
      have hd := shr_two p k (by have := HN.out; omega)
      rw [← hm] at hw hd
      clear hm
      have hA := and_three (div_Q_lt k HP.out)
      obtain ⟨q, hq⟩ : ∃ q : Nat, p / Cv.Q k % 4 = q := ⟨(p / Cv.Q k % 4).toNat, by omega⟩
      have hq4 : q < 4 := by omega
      have hup := Cv.pt_round k p _ hq
      rw [hq] at hA
      clear hq
      generalize (Cv.pt k (p % Cv.Q k)) = XY at *
      obtain ⟨X, Y⟩ := XY
      simp only at g1 g2 hX hY
      obtain ⟨cr, ci, f, tr, ti, mr, mi, ar, ai, b0, b1, HE, ET, em, ea, z1, z2⟩ := number_round k q _ wr zr zi X Y hq4 (by have := HN.out; omega) hX hY g1 g2 c0 c1 c2 c3 c4 c5 c6 c7
      have Em := fun (w : World) => run_complex_mul (P := Try.prog) w 24 _ _ _ _ _ _ em
      have Ea := fun (w : World) => run_complex_sum (P := Try.prog) w .add (.inl rfl) 24 .f64 _ _ _ _ _ _ ea
      have Z := Lib.hid (And.intro z1 z2)
      rw [← hup] at Z
      have ET := Lib.hid ET
      have hq0 : (0 : Int) ≤ q := by omega
      have hq3 : (q : Int) < 4 := by omega
      have C := Lib.hid (And.intro c0 (And.intro c1 (And.intro c2 (And.intro c3 (And.intro c4 (And.intro c5 (And.intro c6 c7)))))))
      clear c0 c1 c2 c3 c4 c5 c6 c7 z1 z2 em ea g1 g2 hX hY hup hq4
      go_wp2_with fail
      go_quiet ((refine Calls.quiet_of_same ((ET.out _).mono fun e w' ⟨h1, h2⟩ => ⟨h1, h2⟩)))
      go_wp2_with fail
      go_roundw
      case rel =>
        have hb := HB.out
        obtain ⟨c0, c1, c2, c3, c4, c5, c6, c7⟩ := C.out
        exact ⟨k + 1, by omega, by rw [HW.out], ⟨_, _, rfl, Z.out.1, Z.out.2⟩, (by repeat (first | exact Below.refl _ _ | assumption | (refine Below.drew ?_) | (refine below_drewN' ?_ _) | (refine below_alloc' ?_ _))), by simp <;> omega, Below.keeps (w := wr) (by repeat (first | exact Below.refl _ _ | assumption | (refine Below.drew ?_) | (refine below_drewN' ?_ _) | (refine below_alloc' ?_ _))) _ _ c0, Below.keeps (w := wr) (by repeat (first | exact Below.refl _ _ | assumption | (refine Below.drew ?_) | (refine below_drewN' ?_ _) | (refine below_alloc' ?_ _))) _ _ c1, Below.keeps (w := wr) (by repeat (first | exact Below.refl _ _ | assumption | (refine Below.drew ?_) | (refine below_drewN' ?_ _) | (refine below_alloc' ?_ _))) _ _ c2, Below.keeps (w := wr) (by repeat (first | exact Below.refl _ _ | assumption | (refine Below.drew ?_) | (refine below_drewN' ?_ _) | (refine below_alloc' ?_ _))) _ _ c3, Below.keeps (w := wr) (by repeat (first | exact Below.refl _ _ | assumption | (refine Below.drew ?_) | (refine below_drewN' ?_ _) | (refine below_alloc' ?_ _))) _ _ c4, Below.keeps (w := wr) (by repeat (first | exact Below.refl _ _ | assumption | (refine Below.drew ?_) | (refine below_drewN' ?_ _) | (refine below_alloc' ?_ _))) _ _ c5, Below.keeps (w := wr) (by repeat (first | exact Below.refl _ _ | assumption | (refine Below.drew ?_) | (refine below_drewN' ?_ _) | (refine below_alloc' ?_ _))) _ _ c6, Below.keeps (w := wr) (by repeat (first | exact Below.refl _ _ | assumption | (refine Below.drew ?_) | (refine below_drewN' ?_ _) | (refine below_alloc' ?_ _))) _ _ c7⟩
      case measure => rw [intOf_of HW.out, intOf_of rfl]; omega
    · obtain rfl : k = n := by omega
      have G := Lib.hid (And.intro g1 g2)
      clear g1 g2
      go_wp2_with fail
      go_ret
      exact ⟨_, _, rfl, G.out.1, G.out.2, HB.out⟩
