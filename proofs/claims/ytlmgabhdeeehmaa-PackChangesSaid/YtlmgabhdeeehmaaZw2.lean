/-
  The walks of package zbits: Cmp.
-/
import Derived.Test.YtlmgabhdeeehmaaZw
namespace Go.Proofs.Ytlmgabhdeeehmaa
open Go.RowKit
set_option linter.unusedVariables false

theorem Zb.first_drop (p q : List Nat) (m k : Nat) (h1 : k < p.length) (h2 : k < q.length) :
    Zb.first (p.drop k) (q.drop k) m = if (p[k] ^^^ q[k]) / 2 ^ m = 0 then Zb.first (p.drop (k + 1)) (q.drop (k + 1)) m else if p[k] < q[k] then -1 else 1 := by
  rw [List.drop_eq_getElem_cons h1, List.drop_eq_getElem_cons h2]
  rfl

set_option maxHeartbeats 400000 in
theorem zCmp_none (p q : List Nat) (A B : Option Addr) (c d : Nat) (w : World) (HP : Hid (∀ w', w' = w → Calls Try.prog 141 #[.slice A p.length c, .slice B q.length d] w' fun e w'' => e = .returned (.tuple #[.int .i64 (-1), .int .i64 0]) ∧ w'' = w')) :
    Calls Try.prog 91 #[.slice A p.length c, .slice B q.length d] w fun e w' => e = .returned (.tuple #[.int .i64 0, .int .i64 0]) ∧ w' = w := by
  go_enter Try.func91, Try.ntmps91
  go_wp2_with fail
  refine (HP.out _ rfl).mono ?_
  rintro e w' ⟨rfl, rfl⟩
  go_wp2_with fail
  go_ret2
  exact ⟨rfl, rfl⟩

set_option maxHeartbeats 400000 in
theorem zCmp_some (p q : List Nat) (b1 o1 b2 o2 : Nat) (c d m : Nat) (w : World) (hm : m < 64) (hl : p.length = q.length) (h16 : p.length ≤ 16) (hp : ∀ c ∈ p, c < 2 ^ 64) (hq : ∀ c ∈ q, c < 2 ^ 64)
    (ga : ∀ j (h : j < p.length), w.cell? ⟨b1, o1 + j, none⟩ = some (.int .u64 ((p[j] : Nat) : Int))) (gb : ∀ j (h : j < q.length), w.cell? ⟨b2, o2 + j, none⟩ = some (.int .u64 ((q[j] : Nat) : Int)))
    (HP : Hid (∀ w', w' = w → Calls Try.prog 141 #[.slice (some ⟨b1, o1, none⟩) p.length c, .slice (some ⟨b2, o2, none⟩) q.length d] w' fun e w'' => e = .returned (.tuple #[.int .i64 (m : Int), .int .i64 0]) ∧ w'' = w')) :
    Calls Try.prog 91 #[.slice (some ⟨b1, o1, none⟩) p.length c, .slice (some ⟨b2, o2, none⟩) q.length d] w fun e w' => e = .returned (.tuple #[.int .i64 (Zb.first p q m), .int .i64 0]) ∧ w' = w := by
  have HD := Lib.hid (And.intro hl (And.intro h16 hm))
  have HQ := Lib.hid (And.intro hp hq)
  have hm0 : ¬ (m : Int) < 0 := by omega
  have hm1 : (0 : Int) ≤ m := by omega
  clear hm hl h16 hp hq
  go_enter Try.func91, Try.ntmps91
  go_wp2_with fail
  refine (HP.out _ rfl).mono ?_
  rintro e w' ⟨rfl, rfl⟩
  go_wp2_with fail
  go_loop [25] (fun i => ∃ k : Nat, k ≤ p.length ∧ i = .int .i64 k ∧ Zb.first (p.drop k) (q.drop k) m = Zb.first p q m) (fun i => p.length - (intOf i).toNat)
  case atStart => exact ⟨0, Nat.zero_le _, rfl, rfl⟩
  case round =>
    obtain ⟨k, hk, rfl, hf⟩ := hrel
    by_cases hlt : k < p.length
    · have hlq : k < q.length := by have := HD.out; omega
      have h3 : (k : Int) < p.length := by omega
      have h4 : (k : Int) < q.length := by omega
      have h5 : (0 : Int) ≤ (k : Int) := by omega
      have c0 := ga k hlt
      have c1 := gb k hlq
      have hx1 := HQ.out.1 _ (List.getElem_mem hlt)
      have hx2 := HQ.out.2 _ (List.getElem_mem hlq)
      have ex := bits_xor_u64_nat p[k] q[k] (by omega) (by omega)
      rw [Zb.first_drop p q m k hlt hlq] at hf
      have ed : (((p[k] ^^^ q[k] : Nat) : Int) / 2 ^ min m 64) = (((p[k] ^^^ q[k]) / 2 ^ m : Nat) : Int) := by
        rw [Nat.min_eq_left (by have := HD.out; omega), Int.natCast_ediv, Int.natCast_pow]; rfl
      have HW := Lib.hid (show wrap64 ((k : Int) + 1) = ((k + 1 : Nat) : Int) by have := HD.out; unfold wrap64; omega)
      have HF := Lib.hid hf
      clear ga gb hx1 hx2 hf
      generalize p[k] = x at *
      generalize q[k] = y at *
      by_cases hz : (x ^^^ y) / 2 ^ m = 0
      · have HF := Lib.hid (HF.out.symm.trans (if_pos hz))
        rw [hz] at ed
        clear hz
        go_wp2_with fail
        go_round
        case rel => exact ⟨k + 1, by omega, by rw [HW.out], HF.out.symm⟩
        case measure => rw [intOf_of' HW.out, intOf_of' rfl]; omega
      · have HF1 := HF.out.symm.trans (if_neg hz)
        have ez : ((((x ^^^ y) / 2 ^ m : Nat) : Int) == 0) = false := by simp only [beq_eq_false_iff_ne]; omega
        clear HF hz
        generalize (x ^^^ y) / 2 ^ m = z at *
        by_cases hxy : x < y
        · have hxy' : (x : Int) < y := by omega
          rw [if_pos hxy] at HF1
          have HF := Lib.hid HF1
          clear HF1 hxy
          go_wp2_with fail
          go_ret2
          exact ⟨by rw [HF.out]; rfl, rfl⟩
        · have hxy' : ¬ (x : Int) < y := by omega
          rw [if_neg hxy] at HF1
          have HF := Lib.hid HF1
          clear HF1 hxy
          go_wp2_with fail
          go_ret2
          exact ⟨by rw [HF.out]; rfl, rfl⟩
    · have HF := Lib.hid (show Zb.first p q m = 0 by
        rw [← hf, List.drop_of_length_le (by omega : p.length ≤ k)]; unfold Zb.first; rfl)
      clear hf
      go_wp2_with fail
      go_ret2
      exact ⟨by rw [HF.out]; rfl, rfl⟩

theorem zCmp_any (p q : List Nat) (va vb : Value) (w : World) (ha : RdU w va (pti p)) (hb : RdU w vb (pti q)) (hl : p.length = q.length) (h1 : 1 ≤ p.length) (h16 : p.length ≤ 16) (hp : ∀ c ∈ p, c < 2 ^ 64) (hq : ∀ c ∈ q, c < 2 ^ 64) :
    Calls Try.prog 91 #[va, vb] w fun e w' => e = .returned (.tuple #[.int .i64 (Zb.cmp p q), .int .i64 0]) ∧ w' = w := by
  have HP := fun w' (h : w' = w) => zPart_any p q va vb w' (h ▸ ha) (h ▸ hb) hl h1 h16 hp hq
  obtain ⟨A, c, rfl, ga0⟩ := RdU.point ha
  obtain ⟨B, d, rfl, gb0⟩ := RdU.point hb
  obtain ⟨b1, o1, rfl, ga⟩ := ga0 (by omega)
  obtain ⟨b2, o2, rfl, gb⟩ := gb0 (by omega)
  rcases Zb.part_key hl 64 with ⟨k1, k2⟩ | ⟨m, hm, k1, k2, k3, k4⟩
  · rw [k1] at HP
    rw [show Zb.cmp p q = 0 by unfold Zb.cmp; rw [k2]; simp]
    exact zCmp_none p q _ _ c d w (Lib.hid HP)
  · rw [k1] at HP
    rw [← Zb.first_cmp hl hp hq m k1]
    exact zCmp_some p q b1 o1 b2 o2 c d m w hm hl h16 hp hq ga gb (Lib.hid HP)
end Go.Proofs.Ytlmgabhdeeehmaa
