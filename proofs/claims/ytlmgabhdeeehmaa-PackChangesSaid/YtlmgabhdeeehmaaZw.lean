/-
  The walks of package zbits: Right, Part, Cmp.
-/
import Derived.Test.YtlmgabhdeeehmaaProg
import Derived.Test.YtlmgabhdeeehmaaBase
import Derived.Test.YtlmgabhdeeehmaaZPure
import Derived.Shelf.Strconv.Itoa0
import Derived.Laws.Bits64b
import Derived.Laws.Bits64
namespace Go.Proofs.Ytlmgabhdeeehmaa
open Go.RowKit
set_option linter.unusedVariables false

/-- where bits.Len64 lies in this program -/
def lenRen : Go.Shelf.Ren := ⟨fun _ => 186, fun n => if n = 3 then 3 else if n = 4 then 4 else if n = 5 then 5 else if n = 9 then 9 else if n = 46 then 193 else 32, fun n => n⟩
theorem lenLaid : Lays.n129 Try.prog lenRen :=
  ⟨by kernel_rfl, by kernel_rfl, by kernel_rfl, fun w => by kernel_rfl, fun w => by kernel_rfl, fun w => by kernel_rfl, by kernel_rfl, fun w => by kernel_rfl, fun w => by kernel_rfl, fun w => by kernel_rfl,
   by kernel_rfl, fun w => by kernel_rfl, fun w => by kernel_rfl, fun w => by kernel_rfl, by kernel_rfl, fun w => by kernel_rfl, fun w => by kernel_rfl, fun w => by kernel_rfl,
   by kernel_rfl, fun w => by kernel_rfl, fun w => by kernel_rfl, fun w => by kernel_rfl, by kernel_rfl, fun w => by kernel_rfl, fun w => by kernel_rfl, fun w => by kernel_rfl⟩
theorem bitLen_len (f : Nat) : ∀ x, x < 2 ^ f → Lib.bitLenAux f x = Zb.len x := by
  induction f with
  | zero => intro x hx; simp at hx; subst hx; rfl
  | succ f ih =>
    intro x hx
    unfold Lib.bitLenAux Zb.len
    by_cases h : x = 0
    · rw [if_pos h, if_pos h]
    · rw [if_neg h, if_neg h, ih (x / 2) (by rw [Nat.pow_succ] at hx; omega)]
      unfold Zb.len
      by_cases h2 : x / 2 = 0
      · have : x = 1 := by omega
        subst this; rfl
      · rw [if_neg h2]
        have h3 : x.log2 = (x / 2).log2 + 1 := by rw [Nat.log2_def, if_pos (by omega)]
        omega
theorem Len64_any (x : Nat) (w : World) (h : x < 2 ^ 64) :
    Calls Try.prog 186 #[.int .u64 x] w fun e w' => e = .returned (.int .i64 (Zb.len x : Nat)) ∧ w' = w := by
  have := Any.bits_Len64 (ρ := lenRen) lenLaid (x : Int) w (by omega) (by omega)
  rw [Int.toNat_natCast, show Lib.bitLen x = Zb.len x from bitLen_len 64 x h] at this
  exact this

/-- a point's numbers as the memory holds them -/
def pti (p : List Nat) : List Int := p.map fun (n : Nat) => (n : Int)
theorem RdU.point {w : World} {v : Value} {p : List Nat} (h : RdU w v (pti p)) : ∃ A c, v = .slice A p.length c ∧ (0 < p.length → ∃ b o, A = some ⟨b, o, none⟩ ∧ ∀ j (h : j < p.length), w.cell? ⟨b, o + j, none⟩ = some (.int .u64 ((p[j] : Nat) : Int))) := by
  obtain ⟨A, c, e, h⟩ := h.slice
  simp only [pti, List.length_map, List.getElem_map] at e h
  exact ⟨A, c, e, h⟩

def okLen (l : Nat) : Bool := decide (1 ≤ l ∧ l ≤ 16)
theorem intOf_of' {x y : Int} (h : x = y) : intOf (.int .i64 x) = y := h
theorem zRight_any (A : Option Addr) (l c : Nat) (w : World) :
    Calls Try.prog 185 #[.slice A l c] w fun e w' => e = .returned (.bool (okLen l)) ∧ w' = w := by
  by_cases h : (l : Int) < 1
  · have HE := Lib.hid (show okLen l = false by unfold okLen; simp; omega)
    have h' : ¬ (l : Int) ≥ 1 := by omega
    go_enter Try.func185, Try.ntmps185
    go_wp2_with fail
    go_ret
    exact ⟨by rw [HE.out]; rfl, rfl⟩
  · have h' : (l : Int) ≥ 1 := by omega
    by_cases h2 : (l : Int) ≤ 16
    · have HE := Lib.hid (show okLen l = true by unfold okLen; simp; omega)
      go_enter Try.func185, Try.ntmps185
      go_wp2_with fail
      go_ret
      exact ⟨by rw [HE.out]; rfl, rfl⟩
    · have HE := Lib.hid (show okLen l = false by unfold okLen; simp; omega)
      go_enter Try.func185, Try.ntmps185
      go_wp2_with fail
      go_ret
      exact ⟨by rw [HE.out]; rfl, rfl⟩

theorem Zb.orx_snoc {p q : List Nat} (hl : p.length = q.length) (c d : Nat) : Zb.orx (p ++ [c]) (q ++ [d]) = Zb.orx p q ||| (c ^^^ d) := by
  induction p generalizing q with
  | nil => cases q with
    | nil => simp [Zb.orx]
    | cons => simp at hl
  | cons a p ih =>
    cases q with
    | nil => simp at hl
    | cons b q =>
      simp only [List.length_cons, Nat.add_right_cancel_iff] at hl
      simp only [List.cons_append, Zb.orx, ih hl, Nat.or_assoc]
theorem Zb.orx_take {p q : List Nat} (hl : p.length = q.length) (k : Nat) (h1 : k < p.length) (h2 : k < q.length) : Zb.orx (p.take (k + 1)) (q.take (k + 1)) = Zb.orx (p.take k) (q.take k) ||| (p[k] ^^^ q[k]) := by
  rw [← List.take_append_getElem h1, ← List.take_append_getElem h2, Zb.orx_snoc (by simp [hl])]

set_option maxHeartbeats 400000 in
theorem zPart_any (p q : List Nat) (va vb : Value) (w : World) (ha : RdU w va (pti p)) (hb : RdU w vb (pti q)) (hl : p.length = q.length) (h1 : 1 ≤ p.length) (h16 : p.length ≤ 16) (hp : ∀ c ∈ p, c < 2 ^ 64) (hq : ∀ c ∈ q, c < 2 ^ 64) :
    Calls Try.prog 141 #[va, vb] w fun e w' => e = .returned (.tuple #[.int .i64 (Zb.part p q 64), .int .i64 0]) ∧ w' = w := by
  obtain ⟨A, c, rfl, ga0⟩ := RdU.point ha
  obtain ⟨B, d, rfl, gb0⟩ := RdU.point hb
  obtain ⟨b1, o1, rfl, ga⟩ := ga0 (by omega)
  obtain ⟨b2, o2, rfl, gb⟩ := gb0 (by omega)
  have HR := Lib.hid (fun w => zRight_any (some ⟨b1, o1, none⟩) p.length c w)
  rw [show okLen p.length = true by unfold okLen; simp; omega] at HR
  have hne : ((p.length : Int) != (q.length : Int)) = false := by simp [hl]
  have HL := Lib.hid (fun w => Len64_any (Zb.orx p q) w (Zb.orx_lt p q hp hq))
  have HE := Lib.hid (Zb.len_part hl hp hq)
  have HQ := Lib.hid (And.intro hp hq)
  have HD := Lib.hid (And.intro hl h16)
  clear ha hb hp hq hl h1 h16 ga0 gb0
  go_enter Try.func141, Try.ntmps141
  go_wp2_with fail
  refine (HR.out _).mono ?_
  rintro e w' ⟨rfl, rfl⟩
  go_wp2_with fail
  go_loop [21, 6] (fun i x => ∃ k : Nat, k ≤ p.length ∧ i = .int .i64 k ∧ x = .int .u64 ((Zb.orx (p.take k) (q.take k) : Nat) : Int)) (fun i _ => p.length - (intOf i).toNat)
  case atStart => exact ⟨0, Nat.zero_le _, rfl, by simp [Zb.orx]⟩
  case round =>
    obtain ⟨k, hk, rfl, rfl⟩ := hrel
    by_cases hlt : k < p.length
    · have hlq : k < q.length := by have := HD.out; omega
      have h3 : (k : Int) < p.length := by omega
      have h4 : (k : Int) < q.length := by omega
      have h5 : (0 : Int) ≤ (k : Int) := by omega
      have c0 := ga k hlt
      have c1 := gb k hlq
      have hx1 := HQ.out.1 _ (List.getElem_mem hlt)
      have hx2 := HQ.out.2 _ (List.getElem_mem hlq)
      have ex := bits_xor_u64_nat p[k] q[k] (by omega) (by omega)
      have hx3 := Nat.xor_lt_two_pow hx1 hx2
      have hx4 := Zb.orx_lt (p.take k) (q.take k) (fun c hc => HQ.out.1 c (List.mem_of_mem_take hc)) (fun c hc => HQ.out.2 c (List.mem_of_mem_take hc))
      have eo := bits_or_u64_nat (Zb.orx (p.take k) (q.take k)) (p[k] ^^^ q[k]) (by omega) (by omega)
      have HW := Lib.hid (show wrap64 ((k : Int) + 1) = ((k + 1 : Nat) : Int) by have := HD.out; unfold wrap64; omega)
      have HT := Lib.hid (Zb.orx_take HD.out.1 k hlt hlq)
      have GA := Lib.hid ga
      have GB := Lib.hid gb
      clear ga gb hx1 hx2 hx3 hx4
      generalize p[k] = x at *
      generalize q[k] = y at *
      go_wp2_with fail
      go_round
      case rel => exact ⟨k + 1, by omega, by rw [HW.out], by rw [HT.out]⟩
      case measure => rw [intOf_of' HW.out, intOf_of' rfl]; omega
    · have e1 : p.take k = p := List.take_of_length_le (by omega)
      have e2 : q.take k = q := List.take_of_length_le (by have := HD.out; omega)
      rw [e1, e2]
      have HE2 := Lib.hid (show wrap64 (((Zb.len (Zb.orx p q) : Nat) : Int) - 1) = Zb.part p q 64 by
        have h1 := HE.out
        have h2 : Zb.len (Zb.orx p q) ≤ 64 := by
          unfold Zb.len
          split
          · omega
          · rename_i h0
            have := (Nat.log2_lt h0).2 (Zb.orx_lt p q HQ.out.1 HQ.out.2)
            omega
        unfold wrap64; omega)
      clear e1 e2
      go_wp2_with fail
      refine (HL.out _).mono ?_
      rintro e w' ⟨rfl, rfl⟩
      go_wp2_with fail
      go_ret2
      exact ⟨by rw [← HE2.out]; rfl, rfl⟩
end Go.Proofs.Ytlmgabhdeeehmaa
