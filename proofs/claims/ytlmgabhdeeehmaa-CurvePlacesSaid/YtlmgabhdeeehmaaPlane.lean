/-
  The walks of package plane: what each function of it hands back.
-/
import Derived.Test.YtlmgabhdeeehmaaProg
import Derived.Test.YtlmgabhdeeehmaaAux
import Derived.Test.YtlmgabhdeeehmaaBase
import Derived.Test.YtlmgabhdeeehmaaPlanePure
namespace Go.Proofs.Ytlmgabhdeeehmaa
open Go.RowKit
set_option linter.unusedVariables false

set_option maxHeartbeats 400000 in
theorem small_two (b : Nat) (o c : Nat) (x y : Int) (w : World) (h0 : w.cell? ⟨b, o, none⟩ = some (.int .u64 x)) (h1 : w.cell? ⟨b, o+1, none⟩ = some (.int .u64 y)) :
    Calls Try.prog 72 #[.slice (some ⟨b, o, none⟩) 2 c] w fun e w' => e = .returned (.bool (decide (max x y < 1048576))) ∧ ∃ n, w' = w.drewN n := by
  by_cases hxy : x < y
  · have hm : max x y = y := by omega
    rw [hm]; clear hm
    go_enter Try.func72, Try.ntmps72
    go_wp2
    go_quiet (fail)
    go_wp2
    go_ret
    exact ⟨rfl, _, rfl⟩
  · have hm : max x y = x := by omega
    rw [hm]; clear hm
    go_enter Try.func72, Try.ntmps72
    go_wp2
    go_quiet (fail)
    go_wp2
    go_ret
    exact ⟨rfl, _, rfl⟩

set_option maxHeartbeats 400000 in
theorem Number_dim (A : Option Addr) (n c : Nat) (w : World) (h : n ≠ 2) :
    Calls Try.prog 16 #[.slice A n c] w fun e w' => e = .returned (.tuple #[.complex .f64 0 0, .int .i64 2]) ∧ w = w' := by
  go_enter Try.func16, Try.ntmps16
  go_wp2
  go_ret2
  exact ⟨rfl, rfl⟩

set_option maxHeartbeats 400000 in
theorem Number_arg (b o c : Nat) (x y : Int) (w : World) (h0 : w.cell? ⟨b, o, none⟩ = some (.int .u64 x)) (h1 : w.cell? ⟨b, o+1, none⟩ = some (.int .u64 y)) (h : decide (max x y < 1048576) = false) :
    Calls Try.prog 16 #[.slice (some ⟨b, o, none⟩) 2 c] w fun e w' => e = .returned (.tuple #[.complex .f64 0 0, .int .i64 3]) ∧ ∃ n, w' = w.drewN n := by
  go_enter Try.func16, Try.ntmps16
  go_wp2_with (go_at_call 72; refine (small_two b o c x y _ h0 h1).mono ?_; rintro e w' ⟨rfl, n, rfl⟩)
  go_ret2
  exact ⟨rfl, _, rfl⟩

set_option maxHeartbeats 400000 in
theorem Number_fine (b o c : Nat) (x y : Int) (w : World) (h0 : w.cell? ⟨b, o, none⟩ = some (.int .u64 x)) (h1 : w.cell? ⟨b, o+1, none⟩ = some (.int .u64 y)) (h : decide (max x y < 1048576) = true) :
    Calls Try.prog 16 #[.slice (some ⟨b, o, none⟩) 2 c] w fun e w' => e = .returned (.tuple #[.complex .f64 (floatOfInt .f64 x) (floatOfInt .f64 y), .int .i64 0]) ∧ ∃ n, w' = w.drewN n := by
  go_enter Try.func16, Try.ntmps16
  go_wp2_with (go_at_call 72; refine (small_two b o c x y _ h0 h1).mono ?_; rintro e w' ⟨rfl, n, rfl⟩)
  go_quiet (fail)
  go_wp2
  go_ret2
  exact ⟨rfl, n + nq, World.drewN_drewN ..⟩

def turnRe (n : Int) : Nat := if n = 0 then 4607182418800017408 else if n = 2 then 13830554455654793216 else 0
def turnIm (n : Int) : Nat := if n = 1 then 4607182418800017408 else if n = 3 then 13830554455654793216 else 0
theorem turn0 : turnRe 0 = 4607182418800017408 ∧ turnIm 0 = 0 := by simp [turnRe, turnIm]
theorem turn1 : turnRe 1 = 0 ∧ turnIm 1 = 4607182418800017408 := by simp [turnRe, turnIm]
theorem turn2 : turnRe 2 = 13830554455654793216 ∧ turnIm 2 = 0 := by simp [turnRe, turnIm]
theorem turn3 : turnRe 3 = 0 ∧ turnIm 3 = 13830554455654793216 := by simp [turnRe, turnIm]

def quads : Value := .agg #[.complex .f64 4607182418800017408 0, .complex .f64 0 4607182418800017408, .complex .f64 13830554455654793216 0, .complex .f64 0 13830554455654793216]
theorem quads_at0 (w : World) : (Instr.index 242 quads (.int .i64 0)).run Try.prog w = .ok (.complex .f64 4607182418800017408 0) w := by kernel_rfl
theorem quads_at1 (w : World) : (Instr.index 242 quads (.int .i64 1)).run Try.prog w = .ok (.complex .f64 0 4607182418800017408) w := by kernel_rfl
theorem quads_at2 (w : World) : (Instr.index 242 quads (.int .i64 2)).run Try.prog w = .ok (.complex .f64 13830554455654793216 0) w := by kernel_rfl
theorem quads_at3 (w : World) : (Instr.index 242 quads (.int .i64 3)).run Try.prog w = .ok (.complex .f64 0 13830554455654793216) w := by kernel_rfl
theorem quads_at (n : Int) (h0 : 0 ≤ n) (h3 : n ≤ 3) (w : World) : (Instr.index 242 quads (.int .i64 n)).run Try.prog w = .ok (.complex .f64 (turnRe n) (turnIm n)) w := by
  have hc : n = 0 ∨ n = 1 ∨ n = 2 ∨ n = 3 := by omega
  rcases hc with rfl | rfl | rfl | rfl
  · rw [turn0.1, turn0.2]; exact quads_at0 w
  · rw [turn1.1, turn1.2]; exact quads_at1 w
  · rw [turn2.1, turn2.2]; exact quads_at2 w
  · rw [turn3.1, turn3.2]; exact quads_at3 w
set_option maxRecDepth 100000 in
set_option maxHeartbeats 400000 in
theorem quarters_any (n : Int) (w : World) (h0 : 0 ≤ n) (h3 : n ≤ 3) :
    Calls Try.prog 130 #[.int .i64 n] w fun e w' => e = .returned (.complex .f64 (turnRe n) (turnIm n)) ∧ w = w' := by
  have hq : ∀ w, (Instr.index 242 (.agg #[.complex .f64 4607182418800017408 0, .complex .f64 0 4607182418800017408, .complex .f64 13830554455654793216 0, .complex .f64 0 13830554455654793216]) (.int .i64 n)).run Try.prog w = .ok (.complex .f64 (turnRe n) (turnIm n)) w := quads_at n h0 h3
  go_enter Try.func130, Try.ntmps130
  go_wp2
  go_ret
  exact ⟨rfl, rfl⟩

def flipIm (f : Bool) (im : Nat) : Nat := if f then Op.negFloat .f64 im else im
set_option maxHeartbeats 400000 in
theorem flip_any (re im : Nat) (f : Bool) (w : World) :
    Calls Try.prog 131 #[.complex .f64 re im, .bool f] w fun e w' => e = .returned (.complex .f64 re (flipIm f im)) ∧ w = w' := by
  cases f
  all_goals
    go_enter Try.func131, Try.ntmps131
    go_wp2
    go_ret
    exact ⟨rfl, rfl⟩

abbrev Mo (t : Int) (f : Bool) (x y : Int) : Value := .agg #[.int .i64 t, .bool f, .int .i64 x, .int .i64 y]
abbrev MoB (t : Int) (f : Bool) (x y : Int) : Obj := .cells #[.int .i64 t, .bool f, .int .i64 x, .int .i64 y] 36

set_option maxHeartbeats 400000 in
theorem shift_any (t : Int) (f : Bool) (x y : Int) (w : World) :
    Calls Try.prog 76 #[Mo t f x y] w fun e w' => e = .returned (.complex .f64 (floatOfInt .f64 x) (floatOfInt .f64 y)) ∧ w' = w.alloc (MoB t f x y) := by
  go_enter Try.func76, Try.ntmps76
  go_wp2
  go_ret
  exact ⟨rfl, rfl⟩

set_option maxHeartbeats 400000 in
theorem at_any (t : Int) (f : Bool) (x y : Int) (re im r1 i1 r2 i2 : Nat) (w : World) (h0 : 0 ≤ t) (h3 : t ≤ 3)
    (hm : cMulBits (turnRe t) (turnIm t) re (flipIm f im) = some (r1, i1))
    (ha : cSumBits .add .f64 r1 i1 (floatOfInt .f64 x) (floatOfInt .f64 y) = some (r2, i2)) :
    Calls Try.prog 74 #[Mo t f x y, .complex .f64 re im] w fun e w' => e = .returned (.complex .f64 r2 i2) ∧ w' = ((w.alloc (MoB t f x y)).alloc (MoB t f x y)).drew := by
  have hm' := fun (w : World) => run_complex_mul (P := Try.prog) w 24 _ _ _ _ _ _ hm
  have ha' := fun (w : World) => run_complex_sum (P := Try.prog) w .add (.inl rfl) 24 .f64 _ _ _ _ _ _ ha
  clear hm ha
  go_enter Try.func74, Try.ntmps74
  go_wp2_with fail
  go_region_held3 (fun w' => w'.cell? ⟨w.heap.size, 0, none⟩ = some (.int .i64 t) ∧ w'.cell? ⟨w.heap.size, 1, none⟩ = some (.bool f) ∧ w'.cell? ⟨w.heap.size, 2, none⟩ = some (.int .i64 x) ∧ w'.cell? ⟨w.heap.size, 3, none⟩ = some (.int .i64 y))
    (go_keep)
    (first
      | (go_at_call 130; refine (quarters_any t _ h0 h3).mono ?_; rintro e w' ⟨rfl, rfl⟩)
      | (go_at_call 131; refine (flip_any re im f _).mono ?_; rintro e w' ⟨rfl, rfl⟩)
      | (go_at_call 76; refine (shift_any t f x y _).mono ?_; rintro e w' ⟨rfl, rfl⟩))
  go_wp2
  go_ret
  exact ⟨rfl, rfl⟩

theorem val_flip {im : Nat} {y : Int} (f : Bool) (h : Fl.Val im y) : Fl.Val (flipIm f im) (Pl.flipY f y) := by
  cases f
  · exact h
  · exact Val.neg h
theorem val_unit (t : Int) (h0 : 0 ≤ t) (h3 : t ≤ 3) : Fl.Val (turnRe t) (Pl.unitX t) ∧ Fl.Val (turnIm t) (Pl.unitY t) := by
  have one : Fl.Val 4607182418800017408 1 := by
    have h := Fl.nearest_val (n := 1) (by decide)
    have e : Ieee.double.write (.number (decide ((1 : Int) < 0)) (1 : Int).natAbs 0) = 4607182418800017408 := by decide
    rwa [e] at h
  have mone : Fl.Val 13830554455654793216 (-1) := by
    have h := Fl.nearest_val (n := -1) (by decide)
    have e : Ieee.double.write (.number (decide ((-1 : Int) < 0)) (-1 : Int).natAbs 0) = 13830554455654793216 := by decide
    rwa [e] at h
  rcases Pl.four h0 h3 with rfl | rfl | rfl | rfl
  · rw [turn0.1, turn0.2]; exact ⟨one, Val.zero⟩
  · rw [turn1.1, turn1.2]; exact ⟨Val.zero, one⟩
  · rw [turn2.1, turn2.2]; exact ⟨mone, Val.zero⟩
  · rw [turn3.1, turn3.2]; exact ⟨Val.zero, mone⟩

theorem abs_lt (z : Int) (h : -1073741824 ≤ z ∧ z ≤ 1073741824) : z.natAbs < 2 ^ 53 := by
  rw [show (2 : Nat) ^ 53 = 9007199254740992 from rfl]; omega

theorem abs_lt2 (z : Int) (h : -4294967296 ≤ z ∧ z ≤ 4294967296) : z.natAbs < 2 ^ 53 := by
  rw [show (2 : Nat) ^ 53 = 9007199254740992 from rfl]; omega

/-- where a number goes, with what it reads as -/
theorem at_val (t : Int) (f : Bool) (x y : Int) (re im : Nat) (u v : Int) (w : World) (h0 : 0 ≤ t) (h3 : t ≤ 3)
    (hre : Fl.Val re u) (him : Fl.Val im v) (hu : -134217728 ≤ u ∧ u ≤ 134217728) (hv : -134217728 ≤ v ∧ v ≤ 134217728)
    (hx : -134217728 ≤ x ∧ x ≤ 134217728) (hy : -134217728 ≤ y ∧ y ≤ 134217728) :
    Calls Try.prog 74 #[Mo t f x y, .complex .f64 re im] w fun e w' => ∃ r i, e = .returned (.complex .f64 r i) ∧ w' = ((w.alloc (MoB t f x y)).alloc (MoB t f x y)).drew ∧
      Fl.Val r (Pl.turnX t f u v + x) ∧ Fl.Val i (Pl.turnY t f u v + y) := by
  obtain ⟨g1, g2⟩ := val_unit t h0 h3
  have g3 := val_flip f him
  have hb := Pl.turn_bound (f := f) h0 h3 hu hv
  have hm := Val.cmul g1 g2 hre g3 (by rcases Pl.four h0 h3 with rfl | rfl | rfl | rfl <;> simp [Pl.unitX] <;> omega)
    (by cases f <;> rcases Pl.four h0 h3 with rfl | rfl | rfl | rfl <;> simp [Pl.unitY, Pl.flipY] <;> omega)
    (by cases f <;> rcases Pl.four h0 h3 with rfl | rfl | rfl | rfl <;> simp [Pl.unitX, Pl.flipY] <;> omega)
    (by rcases Pl.four h0 h3 with rfl | rfl | rfl | rfl <;> simp [Pl.unitY] <;> omega)
    (by rw [(Pl.rot_mul h0 h3 _ _).1]; exact abs_lt _ (by unfold Pl.turnX at hb; omega))
    (by rw [(Pl.rot_mul h0 h3 _ _).2]; exact abs_lt _ (by unfold Pl.turnY at hb; omega))
  obtain ⟨r1, i1, hm, v1, v2⟩ := hm
  rw [(Pl.rot_mul h0 h3 _ _).1] at v1
  rw [(Pl.rot_mul h0 h3 _ _).2] at v2
  obtain ⟨r2, i2, ha, v3, v4⟩ := Val.cadd v1 v2 (Val.ofInt (n := x) (abs_lt _ (by omega))) (Val.ofInt (n := y) (abs_lt _ (by omega)))
    (abs_lt _ (by unfold Pl.turnX at hb; omega)) (abs_lt _ (by unfold Pl.turnY at hb; omega))
  refine (at_any t f x y re im r1 i1 r2 i2 w h0 h3 hm ha).mono ?_
  rintro e w' ⟨rfl, hw⟩
  exact ⟨r2, i2, rfl, hw, v3, v4⟩

set_option maxHeartbeats 400000 in
theorem Right_any (t : Int) (f : Bool) (x y : Int) (w : World) :
    Calls Try.prog 24 #[Mo t f x y] w fun e w' => e = .returned (.bool (Pl.rightB t x y)) ∧ w' = w.alloc (MoB t f x y) := by
  go_enter Try.func24, Try.ntmps24
  go_wp2
  all_goals
    go_ret
    exact ⟨ret_bool (bool_ext (by unfold Pl.rightB; simp only [decide_eq_true_iff, Bool.false_eq_true]; exact ⟨fun h => (by first | omega | cases h), fun h => (by omega)⟩)), rfl⟩

set_option maxHeartbeats 400000 in
theorem RefRight_any (t x y : Int) (w : World) :
    Calls Try.prog 23 #[.int .i64 t, .int .i64 x, .int .i64 y] w fun e w' => e = .returned (.bool (Pl.rightB t x y)) ∧ w = w' := by
  go_enter Try.func23, Try.ntmps23
  go_wp2
  all_goals
    go_ret
    exact ⟨ret_bool (bool_ext (by unfold Pl.rightB; simp only [decide_eq_true_iff, Bool.false_eq_true]; exact ⟨fun h => (by first | omega | cases h), fun h => (by omega)⟩)), rfl⟩

def truncB (b : Nat) : Nat := FloatKind.f64.encode ((FloatKind.f64.decode b).integral .zero)

theorem archTrunc_row (b : Nat) (h : ∃ s m e, FloatKind.f64.decode b = .number s m e) (w : World) : (Extern.MathFloor.toIntegral "math.archTrunc" .zero #[.float .f64 b]).run Try.prog w = .ok (.float .f64 (truncB b)) w := by
  obtain ⟨s, m, e, h⟩ := h
  unfold truncB
  change Sem.run _ (match FloatKind.f64.decode b with | .nan s t => _ | d => pure (Value.float .f64 (FloatKind.f64.encode (d.integral .zero)))) w = _
  rw [h]
  rfl

theorem archTrunc_call (b : Nat) (h : ∃ s m e, FloatKind.f64.decode b = .number s m e) (w : World) : (callFunc 179 #[.float .f64 b]).run Try.prog w = .ok (.value (.float .f64 (truncB b))) w := by
  rw [run_callFunc_extern (fn := Try.f179) (e := Extern.MathFloor.toIntegral "math.archTrunc" .zero) Try.func179 (by kernel_rfl) (by kernel_rfl) (by kernel_rfl) (by kernel_rfl), archTrunc_row b h]
  rfl

set_option maxRecDepth 100000 in
set_option maxHeartbeats 400000 in
theorem Trunc_any (b : Nat) (w : World) (h : ∃ s m e, FloatKind.f64.decode b = .number s m e) :
    Calls Try.prog 129 #[.float .f64 b] w fun e w' => e = .returned (.float .f64 (truncB b)) ∧ w = w' := by
  have hr := archTrunc_call b h
  clear h
  go_enter Try.func129, Try.ntmps129
  go_wp2
  go_ret
  exact ⟨rfl, rfl⟩

/-- what 'coordinate' asks, of the bits -/
def c1 (b : Nat) : Bool := FloatKind.f64.format.order b 0 == some .gt || FloatKind.f64.format.order b 0 == some .eq
def c2 (b : Nat) : Bool := FloatKind.f64.format.order b 4697254411347427328 == some .lt
def c3 (b : Nat) : Bool := FloatKind.f64.format.order b (truncB b) == some .eq

set_option maxRecDepth 100000 in
set_option maxHeartbeats 400000 in
theorem coordinate_any (b : Nat) (w : World) (h : ∃ s m e, FloatKind.f64.decode b = .number s m e) (k1 k2 k3 : Bool) (h1 : c1 b = k1) (h2 : c2 b = k2) (h3 : c3 b = k3) :
    Calls Try.prog 73 #[.float .f64 b] w fun e w' => e = .returned (.bool (k1 && k2 && k3)) ∧ w = w' := by
  have HN := Lib.hid h
  clear h
  unfold c1 at h1
  unfold c2 at h2
  unfold c3 at h3
  cases k1
  · go_enter Try.func73, Try.ntmps73
    go_wp2_with (go_at_call 129; refine (Trunc_any b _ HN.out).mono ?_; rintro e w' ⟨rfl, rfl⟩)
    go_ret
    exact ⟨rfl, rfl⟩
  · cases k2
    · go_enter Try.func73, Try.ntmps73
      go_wp2_with (go_at_call 129; refine (Trunc_any b _ HN.out).mono ?_; rintro e w' ⟨rfl, rfl⟩)
      go_ret
      exact ⟨rfl, rfl⟩
    · go_enter Try.func73, Try.ntmps73
      go_wp2_with (go_at_call 129; refine (Trunc_any b _ HN.out).mono ?_; rintro e w' ⟨rfl, rfl⟩)
      go_ret
      exact ⟨ret_bool (by simp), rfl⟩

theorem small_val : Fl.Val 4697254411347427328 1048576 := by
  have h := Fl.nearest_val (n := 1048576) (by decide)
  have e : Ieee.double.write (.number (decide ((1048576 : Int) < 0)) (1048576 : Int).natAbs 0) = 4697254411347427328 := by decide
  rwa [e] at h

theorem coord_bits {b : Nat} {z : Int} (h : Fl.Val b z) (hz : z.natAbs < 2 ^ 53) : (c1 b && c2 b && c3 b) = Pl.coordB z := by
  have e1 : c1 b = decide (0 ≤ z) := by
    unfold c1
    rw [Val.order h Val.zero]
    rcases Int.lt_trichotomy z 0 with hl | rfl | hl
    · rw [Int.compare_eq_lt.2 hl]; simp; omega
    · rfl
    · rw [Int.compare_eq_gt.2 hl]; simp; omega
  have e2 : c2 b = decide (z < 1048576) := by
    unfold c2
    rw [Val.order h small_val]
    rcases Int.lt_trichotomy z 1048576 with hl | rfl | hl
    · rw [Int.compare_eq_lt.2 hl]; simp; omega
    · rw [Int.compare_eq_eq.2 rfl]; simp
    · rw [Int.compare_eq_gt.2 hl]; simp; omega
  have e3 : c3 b = true := by
    unfold c3 truncB
    have ht : Fl.Val (FloatKind.f64.encode ((FloatKind.f64.decode b).integral .zero)) z := Fl.trunc_val .zero h hz
    rw [Val.order h ht, Int.compare_eq_eq.2 rfl]
    rfl
  rw [e1, e2, e3]
  unfold Pl.coordB
  rw [Bool.and_true, ← Bool.decide_and]

theorem coordinate_val (b : Nat) (z : Int) (w : World) (h : Fl.Val b z) (hz : z.natAbs < 2 ^ 53) :
    Calls Try.prog 73 #[.float .f64 b] w fun e w' => e = .returned (.bool (Pl.coordB z)) ∧ w = w' := by
  refine (coordinate_any b w (Fl.not_nan h) _ _ _ rfl rfl rfl).mono ?_
  rintro e w' ⟨rfl, hw⟩
  exact ⟨ret_bool (coord_bits h hz), hw⟩

-- Point, of whatever two floats: is each a coordinate?
set_option maxHeartbeats 400000 in
theorem Point_no (re im : Nat) (w : World) (k1 k2 : Bool) (hk : (k1 && k2) = false)
    (h1 : ∀ w, Calls Try.prog 73 #[.float .f64 re] w fun e w' => e = .returned (.bool k1) ∧ w = w') (h2 : ∀ w, Calls Try.prog 73 #[.float .f64 im] w fun e w' => e = .returned (.bool k2) ∧ w = w') :
    Calls Try.prog 18 #[.complex .f64 re im] w fun e w' => e = .returned (.tuple #[.slice none 0 0, .int .i64 3]) ∧ w = w' := by
  have H1 := Lib.hid h1
  have H2 := Lib.hid h2
  clear h1 h2
  cases k1
  · go_enter Try.func18, Try.ntmps18
    go_wp2_with fail
    refine (H1.out _).mono ?_
    rintro e w' ⟨rfl, rfl⟩
    go_wp2_with fail
    go_ret2
    exact ⟨rfl, rfl⟩
  · cases k2
    · go_enter Try.func18, Try.ntmps18
      go_wp2_with fail
      refine (H1.out _).mono ?_
      rintro e w' ⟨rfl, rfl⟩
      go_wp2_with fail
      refine (H2.out _).mono ?_
      rintro e w' ⟨rfl, rfl⟩
      go_wp2_with fail
      go_ret2
      exact ⟨rfl, rfl⟩
    · cases hk

set_option maxHeartbeats 400000 in
theorem Point_yes (re im : Nat) (x y : Int) (w : World) (h1 : Fl.Val re x) (h2 : Fl.Val im y) (k1 : Pl.coordB x = true) (k2 : Pl.coordB y = true) :
    Calls Try.prog 18 #[.complex .f64 re im] w fun e w' => e = .returned (.tuple #[.slice (some ⟨w.heap.size, 0, none⟩) 2 2, .int .i64 0]) ∧ w' = w.alloc (.cells #[.int .u64 x, .int .u64 y] 32) := by
  have b1 : 0 ≤ x ∧ x < 1048576 := by simpa [Pl.coordB] using k1
  have b2 : 0 ≤ y ∧ y < 1048576 := by simpa [Pl.coordB] using k2
  have H1 := Lib.hid (fun w => coordinate_val re x w h1 (abs_lt _ (by omega)))
  have H2 := Lib.hid (fun w => coordinate_val im y w h2 (abs_lt _ (by omega)))
  have i1 := fun (w : World) => run_convert_float_int (P := Try.prog) w 31 32 _ _ _ _ (by kernel_rfl) (by kernel_rfl) (Val.toInt h1 .u64 (by simp [IntKind.min, IntKind.signed]; omega) (by simp [IntKind.max, IntKind.signed, IntKind.bits]; omega))
  have i2 := fun (w : World) => run_convert_float_int (P := Try.prog) w 31 32 _ _ _ _ (by kernel_rfl) (by kernel_rfl) (Val.toInt h2 .u64 (by simp [IntKind.min, IntKind.signed]; omega) (by simp [IntKind.max, IntKind.signed, IntKind.bits]; omega))
  clear h1 h2 b1 b2
  go_enter Try.func18, Try.ntmps18
  go_wp2_with fail
  refine (H1.out _).mono ?_
  rintro e w' ⟨rfl, rfl⟩
  go_wp2_with fail
  refine (H2.out _).mono ?_
  rintro e w' ⟨rfl, rfl⟩
  go_wp2_with fail
  go_ret2
  exact ⟨rfl, rfl⟩

end Go.Proofs.Ytlmgabhdeeehmaa
