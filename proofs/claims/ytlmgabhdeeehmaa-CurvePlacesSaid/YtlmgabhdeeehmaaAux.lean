/-
  Laws on floats that are whole numbers, in the walk's own words. No program.
-/
import Derived.WalkKit
import Derived.WalkSpells
import Derived.WalkLawsBesides
import Derived.Deep.QuietTactic
import Derived.BigQuiet
import Derived.Deep.RegionHeld3
import Derived.Test.YtlmgabhdeeehmaaFl
namespace Go
theorem neg_bits (b : Nat) : (b ^^^ 2 ^ 63) % 2 ^ 63 = b % 2 ^ 63 ∧ (b ^^^ 2 ^ 63) / 2 ^ 63 % 2 = (b / 2 ^ 63 + 1) % 2 := by
  refine ⟨?_, ?_⟩
  · apply Nat.eq_of_testBit_eq
    intro i
    simp only [Nat.testBit_mod_two_pow, Nat.testBit_xor, Nat.testBit_two_pow]
    by_cases h : i < 63
    · have h2 : ¬ 63 = i := by omega
      simp [h, h2]
    · simp [h]
  · have h : ∀ c : Nat, c / 2 ^ 63 % 2 = (c.testBit 63).toNat := fun c => by
      rw [Nat.testBit_eq_decide_div_mod_eq]
      rcases Nat.mod_two_eq_zero_or_one (c / 2 ^ 63) with e | e <;> simp [e]
    have h2 : (b / 2 ^ 63 + 1) % 2 = (!(b.testBit 63)).toNat := by
      rw [Nat.testBit_eq_decide_div_mod_eq]
      rcases Nat.mod_two_eq_zero_or_one (b / 2 ^ 63) with e | e
      · rw [Nat.add_mod, e]; simp
      · rw [Nat.add_mod, e]; simp
    rw [h, h2, Nat.testBit_xor, Nat.testBit_two_pow]
    simp

theorem Val.neg {b : Nat} {z : Int} (h : Fl.Val b z) : Fl.Val (Op.negFloat .f64 b) (-z) := by
  have hr : Ieee.double.read (Op.negFloat .f64 b) = (Ieee.double.read b).opposite := by
    have e : Op.negFloat .f64 b = b ^^^ 2 ^ 63 := rfl
    obtain ⟨h1, h2⟩ := neg_bits b
    rw [e]
    unfold Ieee.Format.read
    simp only [Fl.sw, h1, h2]
    have h3 : ((b / 2 ^ 63 + 1) % 2 == 1) = !(b / 2 ^ 63 % 2 == 1) := by
      rcases Nat.mod_two_eq_zero_or_one (b / 2 ^ 63) with e | e
      · rw [Nat.add_mod, e]; rfl
      · rw [Nat.add_mod, e]; rfl
    rw [h3]
    split
    · rfl
    · split
      · rfl
      · split <;> rfl
  have := Fl.opposite_val 0 h
  unfold Fl.Val Fl.PVal
  rw [hr]; exact this

@[go_sem] theorem run_neg_float {P : Program} (w : World) (k : FloatKind) (b : Nat) : (Op.unary .neg (.float k b)).run P w = .ok (.float k (Op.negFloat k b)) w := rfl
@[go_sem] theorem run_neg_complex {P : Program} (w : World) (k : FloatKind) (a b : Nat) : (Op.unary .neg (.complex k a b)).run P w = .ok (.complex k (Op.negFloat k a) (Op.negFloat k b)) w := rfl

theorem Val.ofInt {n : Int} (h : n.natAbs < 2 ^ 53) : Fl.Val (floatOfInt .f64 n) n := Fl.nearest_val h

theorem Val.cadd {a b c d : Nat} {x y u v : Int} (ha : Fl.Val a x) (hb : Fl.Val b y) (hc : Fl.Val c u) (hd : Fl.Val d v)
    (h1 : (x + u).natAbs < 2 ^ 53) (h2 : (y + v).natAbs < 2 ^ 53) : ∃ re im, cSumBits .add .f64 a b c d = some (re, im) ∧ Fl.Val re (x + u) ∧ Fl.Val im (y + v) := by
  obtain ⟨r, e, hr⟩ := Fl.add_val ha hc h1
  obtain ⟨s, f, hs⟩ := Fl.add_val hb hd h2
  refine ⟨r, s, ?_, hr, hs⟩
  have e' : floatBits .add .f64 a c = some r := e
  have f' : floatBits .add .f64 b d = some s := f
  simp [cSumBits, e', f']
theorem Val.csub {a b c d : Nat} {x y u v : Int} (ha : Fl.Val a x) (hb : Fl.Val b y) (hc : Fl.Val c u) (hd : Fl.Val d v)
    (h1 : (x - u).natAbs < 2 ^ 53) (h2 : (y - v).natAbs < 2 ^ 53) : ∃ re im, cSumBits .sub .f64 a b c d = some (re, im) ∧ Fl.Val re (x - u) ∧ Fl.Val im (y - v) := by
  obtain ⟨r, e, hr⟩ := Fl.sub_val ha hc h1
  obtain ⟨s, f, hs⟩ := Fl.sub_val hb hd h2
  refine ⟨r, s, ?_, hr, hs⟩
  have e' : floatBits .sub .f64 a c = some r := e
  have f' : floatBits .sub .f64 b d = some s := f
  simp [cSumBits, e', f']
theorem Val.cmul {a b c d : Nat} {x y u v : Int} (ha : Fl.Val a x) (hb : Fl.Val b y) (hc : Fl.Val c u) (hd : Fl.Val d v)
    (h1 : (x * u).natAbs < 2 ^ 53) (h2 : (y * v).natAbs < 2 ^ 53) (h3 : (x * v).natAbs < 2 ^ 53) (h4 : (y * u).natAbs < 2 ^ 53)
    (h5 : (x * u - y * v).natAbs < 2 ^ 53) (h6 : (x * v + y * u).natAbs < 2 ^ 53) :
    ∃ re im, cMulBits a b c d = some (re, im) ∧ Fl.Val re (x * u - y * v) ∧ Fl.Val im (x * v + y * u) := by
  obtain ⟨r1, e1, q1⟩ := Fl.mul_val ha hc h1
  obtain ⟨r2, e2, q2⟩ := Fl.mul_val hb hd h2
  obtain ⟨r3, e3, q3⟩ := Fl.mul_val ha hd h3
  obtain ⟨r4, e4, q4⟩ := Fl.mul_val hb hc h4
  obtain ⟨r5, e5, q5⟩ := Fl.sub_val q1 q2 h5
  obtain ⟨r6, e6, q6⟩ := Fl.add_val q3 q4 h6
  refine ⟨r5, r6, ?_, q5, q6⟩
  have e1' : floatBits .mul .f64 a c = some r1 := e1
  have e2' : floatBits .mul .f64 b d = some r2 := e2
  have e3' : floatBits .mul .f64 a d = some r3 := e3
  have e4' : floatBits .mul .f64 b c = some r4 := e4
  have e5' : floatBits .sub .f64 r1 r2 = some r5 := e5
  have e6' : floatBits .add .f64 r3 r4 = some r6 := e6
  simp [cMulBits, e1', e2', e3', e4', e5', e6']

theorem Val.order {a b : Nat} {x y : Int} (ha : Fl.Val a x) (hb : Fl.Val b y) : FloatKind.f64.format.order a b = some (compare x y) := Fl.order_val ha hb

theorem Val.toInt {a : Nat} {x : Int} (ha : Fl.Val a x) (k : IntKind) (h1 : k.min ≤ x) (h2 : x ≤ k.max) : floatToIntVal .f64 a k = some x := by
  unfold floatToIntVal
  have : (FloatKind.f64.decode a).toInt .zero = some x := Fl.toInt_val .zero ha
  rw [this]
  simp [h1, h2]

theorem Val.zero : Fl.Val 0 0 := by
  have h := Fl.nearest_val (n := 0) (by decide)
  have e : Ieee.double.write (.number (decide ((0 : Int) < 0)) (0 : Int).natAbs 0) = 0 := by decide
  rwa [e] at h
end Go
