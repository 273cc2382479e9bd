/-
  The document's answer for the order of points: its walks.
-/
import Derived.Test.YtlmgabhdeeehmaaZw2
namespace Go.Proofs.Ytlmgabhdeeehmaa
open Go.RowKit
set_option linter.unusedVariables false

theorem Zb.addr_snoc (p : List Nat) (c n : Nat) : Zb.addr (p ++ [c]) n = 2 * Zb.addr p n + Zb.bit c n := by
  induction p with
  | nil => simp [Zb.addr]
  | cons a p ih =>
    simp only [List.cons_append, Zb.addr, ih, List.length_append, List.length_cons, List.length_nil, Nat.zero_add]
    rw [Nat.pow_succ, ← Nat.mul_assoc]; omega
theorem Zb.addr_take (p : List Nat) (n k : Nat) (h : k < p.length) : Zb.addr (p.take (k + 1)) n = 2 * Zb.addr (p.take k) n + Zb.bit p[k] n := by
  rw [← List.take_append_getElem h, Zb.addr_snoc]
theorem Zb.addr_small (p : List Nat) (n : Nat) (h : p.length ≤ 40) : Zb.addr p n < 1099511627776 := by
  have h1 := Zb.addr_lt p n
  have h2 : 2 ^ p.length ≤ 2 ^ 40 := Nat.pow_le_pow_right (by omega) h
  omega

theorem rBit_any (u n : Nat) (w : World) (hu : u < 2 ^ 64) (hn : n < 64) :
    Calls Try.prog 184 #[.int .u64 u, .int .i64 n] w fun e w' => e = .returned (.int .i64 (Zb.bit u n : Nat)) ∧ w' = w := by
  have ed : ((u : Int) / 2 ^ min n 64) = ((u / 2 ^ n : Nat) : Int) := by
    rw [Nat.min_eq_left (by omega), Int.natCast_ediv, Int.natCast_pow]; rfl
  have hn0 : (0 : Int) ≤ n := by omega
  have HE := Lib.hid (show (((u / 2 ^ n : Nat) : Int)) % 2 = ((Zb.bit u n : Nat) : Int) by unfold Zb.bit; omega)
  have eb := Zb.bit_lt u n
  have ew : wrap64 ((Zb.bit u n : Nat) : Int) = (Zb.bit u n : Nat) := by unfold wrap64; omega
  have et : Int.tmod ((u / 2 ^ n : Nat) : Int) 2 = ((Zb.bit u n : Nat) : Int) := by rw [Int.tmod_eq_emod_of_nonneg (Int.natCast_nonneg _)]; exact HE.out
  have ee := HE.out
  clear hu hn
  generalize u / 2 ^ n = z at *
  generalize Zb.bit u n = y at *
  go_enter Try.func184, Try.ntmps184
  go_wp2_with fail
  go_ret
  exact ⟨rfl, rfl⟩

set_option maxHeartbeats 400000 in
theorem rAddr_any (p : List Nat) (n : Nat) (v : Value) (w : World) (hv : RdU w v (pti p)) (hl : p.length ≤ 40) (hp : ∀ c ∈ p, c < 2 ^ 64) (hn : n < 64) :
    Calls Try.prog 136 #[v, .int .i64 n] w fun e w' => e = .returned (.int .i64 (Zb.addr p n : Nat)) ∧ w' = w := by
  obtain ⟨A, c, rfl, ga0⟩ := RdU.point hv
  have HD := Lib.hid (And.intro hl (And.intro hp hn))
  clear hv hl hp hn
  go_enter Try.func136, Try.ntmps136
  go_wp2_with fail
  go_loop [6, 5] (fun i x => ∃ k : Nat, k ≤ p.length ∧ i = .int .i64 k ∧ x = .int .i64 ((Zb.addr (p.take k) n : Nat) : Int)) (fun i _ => p.length - (intOf i).toNat)
  case atStart => exact ⟨0, Nat.zero_le _, rfl, by simp [Zb.addr]⟩
  case round =>
    obtain ⟨k, hk, rfl, rfl⟩ := hrel
    by_cases hlt : k < p.length
    · have h3 : (k : Int) < p.length := by omega
      have h5 : (0 : Int) ≤ (k : Int) := by omega
      obtain ⟨b, o, rfl, ga⟩ := ga0 (by omega)
      have c0 := ga k hlt
      have HB := Lib.hid (fun w => rBit_any p[k] n w (HD.out.2.1 _ (List.getElem_mem hlt)) HD.out.2.2)
      have HT := Lib.hid (Zb.addr_take p n k hlt)
      have hs := Zb.addr_small (p.take k) n (by have := HD.out.1; rw [List.length_take]; omega)
      have hb := Zb.bit_lt p[k] n
      have HW := Lib.hid (show wrap64 ((k : Int) + 1) = ((k + 1 : Nat) : Int) by have := HD.out.1; unfold wrap64; omega)
      have e1 : wrap64 (2 * ((Zb.addr (p.take k) n : Nat) : Int)) = ((2 * Zb.addr (p.take k) n : Nat) : Int) := by unfold wrap64; omega
      have e2 := Lib.hid (show wrap64 (((2 * Zb.addr (p.take k) n : Nat) : Int) + ((Zb.bit p[k] n : Nat) : Int)) = ((Zb.addr (p.take (k + 1)) n : Nat) : Int) by rw [HT.out]; unfold wrap64; omega)
      clear ga ga0 hs hb
      generalize Zb.addr (p.take k) n = a at *
      generalize Zb.bit p[k] n = y at *
      generalize p[k] = x at *
      go_wp2_with fail
      refine (HB.out _).mono ?_
      rintro e w' ⟨rfl, rfl⟩
      go_wp2_with fail
      go_round
      case rel => exact ⟨k + 1, by omega, by rw [HW.out], by rw [← e2.out]; rfl⟩
      case measure => rw [intOf_of' HW.out, intOf_of' rfl]; omega
    · have e1 : p.take k = p := List.take_of_length_le (by omega)
      rw [e1]
      clear e1
      go_wp2_with fail
      go_ret
      exact ⟨rfl, rfl⟩

set_option maxHeartbeats 400000 in
theorem rPart_any (p q : List Nat) (va vb : Value) (w : World) (ha : RdU w va (pti p)) (hb : RdU w vb (pti q)) (hl : p.length ≤ 40) (hl2 : q.length ≤ 40) (hp : ∀ c ∈ p, c < 2 ^ 64) (hq : ∀ c ∈ q, c < 2 ^ 64) :
    Calls Try.prog 135 #[va, vb] w fun e w' => e = .returned (.int .i64 (Zb.part p q 64)) ∧ w' = w := by
  have HA := Lib.hid (fun w' (h : w' = w) n (hn : n < 64) => rAddr_any p n va w' (h ▸ ha) hl hp hn)
  have HB := Lib.hid (fun w' (h : w' = w) n (hn : n < 64) => rAddr_any q n vb w' (h ▸ hb) hl2 hq hn)
  clear ha hb hl hl2 hp hq
  go_enter Try.func135, Try.ntmps135
  go_wp2_with fail
  go_loop [5] (fun i => ∃ (N : Nat) (a : Int), N ≤ 64 ∧ i = .int .i64 a ∧ a = N - 1 ∧ Zb.part p q N = Zb.part p q 64) (fun i => (intOf i + 1).toNat)
  case atStart => exact ⟨64, 63, Nat.le_refl _, rfl, rfl, rfl⟩
  case round =>
    obtain ⟨N, a, hN, rfl, ha, hp⟩ := hrel
    cases N with
    | zero =>
      have h0 : ¬ a ≥ 0 := by omega
      have HP := Lib.hid (show Zb.part p q 64 = -1 by rw [← hp]; rfl)
      clear hp ha
      go_wp2_with fail
      go_ret
      exact ⟨by rw [HP.out]; rfl, rfl⟩
    | succ n =>
      obtain rfl : a = (n : Int) := by omega
      have h0 : (n : Int) ≥ 0 := by omega
      have hn : n < 64 := by omega
      rw [Zb.part_succ] at hp
      have HW := Lib.hid (show wrap64 ((n : Int) - 1) = (n : Int) - 1 by unfold wrap64; omega)
      have HN := Lib.hid hn
      clear hN ha hn
      by_cases he : Zb.addr p n = Zb.addr q n
      · have hne : ((((Zb.addr p n : Nat) : Int)) != ((Zb.addr q n : Nat) : Int)) = false := by rw [he]; simp
        rw [if_neg (by omega)] at hp
        have HP := Lib.hid hp
        clear hp he
        go_wp2_with fail
        refine (HA.out _ rfl n HN.out).mono ?_
        rintro e w' ⟨rfl, rfl⟩
        go_wp2_with fail
        refine (HB.out _ rfl n HN.out).mono ?_
        rintro e w' ⟨rfl, rfl⟩
        go_wp2_with fail
        go_round
        case rel => exact ⟨n, _, by have := HN.out; omega, rfl, HW.out, HP.out⟩
        case measure => rw [intOf_of' HW.out, intOf_of' rfl]; omega
      · have hne : ((((Zb.addr p n : Nat) : Int)) != ((Zb.addr q n : Nat) : Int)) = true := by simp; omega
        rw [if_pos he] at hp
        have HP := Lib.hid hp
        clear hp he
        go_wp2_with fail
        refine (HA.out _ rfl n HN.out).mono ?_
        rintro e w' ⟨rfl, rfl⟩
        go_wp2_with fail
        refine (HB.out _ rfl n HN.out).mono ?_
        rintro e w' ⟨rfl, rfl⟩
        go_wp2_with fail
        go_ret
        exact ⟨by rw [← HP.out]; rfl, rfl⟩

set_option maxHeartbeats 400000 in
theorem rCmp_any (p q : List Nat) (va vb : Value) (w : World) (ha : RdU w va (pti p)) (hb : RdU w vb (pti q)) (he : p.length = q.length) (hl : p.length ≤ 40) (hp : ∀ c ∈ p, c < 2 ^ 64) (hq : ∀ c ∈ q, c < 2 ^ 64) :
    Calls Try.prog 85 #[va, vb] w fun e w' => e = .returned (.int .i64 (Zb.cmp p q)) ∧ w' = w := by
  have HP := fun w' (h : w' = w) => rPart_any p q va vb w' (h ▸ ha) (h ▸ hb) hl (by omega) hp hq
  have HC := Zb.cmp_part he
  rcases Zb.part_key he 64 with ⟨k1, k2⟩ | ⟨m, hm, k1, k2, k3, k4⟩
  · rw [k1] at HP HC
    rw [if_pos (by omega)] at HC
    have HP := Lib.hid HP
    have HC := Lib.hid HC
    clear ha hb hl he hp hq k1 k2
    go_enter Try.func85, Try.ntmps85
    go_wp2_with fail
    refine (HP.out _ rfl).mono ?_
    rintro e w' ⟨rfl, rfl⟩
    go_wp2_with fail
    go_ret
    exact ⟨by rw [HC.out]; rfl, rfl⟩
  · rw [k1] at HP HC
    rw [if_neg (show ¬ (m : Int) < 0 by omega), Int.toNat_natCast] at HC
    have HA := Lib.hid (fun w' (h : w' = w) => rAddr_any p m va w' (h ▸ ha) hl hp hm)
    have HB := Lib.hid (fun w' (h : w' = w) => rAddr_any q m vb w' (h ▸ hb) (by omega) hq hm)
    have hm0 : ¬ (m : Int) < 0 := by omega
    have HP := Lib.hid HP
    clear ha hb hl he hp hq k1 k2 k3 k4 hm
    generalize Zb.cmp p q = z at *
    generalize Zb.addr p m = x at *
    generalize Zb.addr q m = y at *
    by_cases hlt : x < y
    · rw [if_pos hlt] at HC
      have hlt' : (x : Int) < y := by omega
      have HC := Lib.hid HC
      clear hlt
      go_enter Try.func85, Try.ntmps85
      go_wp2_with fail
      refine (HP.out _ rfl).mono ?_
      rintro e w' ⟨rfl, rfl⟩
      go_wp2_with fail
      refine (HA.out _ rfl).mono ?_
      rintro e w' ⟨rfl, rfl⟩
      go_wp2_with fail
      refine (HB.out _ rfl).mono ?_
      rintro e w' ⟨rfl, rfl⟩
      go_wp2_with fail
      go_ret
      exact ⟨by rw [HC.out]; rfl, rfl⟩
    · rw [if_neg hlt] at HC
      have hlt' : ¬ (x : Int) < y := by omega
      have HC := Lib.hid HC
      clear hlt
      go_enter Try.func85, Try.ntmps85
      go_wp2_with fail
      refine (HP.out _ rfl).mono ?_
      rintro e w' ⟨rfl, rfl⟩
      go_wp2_with fail
      refine (HA.out _ rfl).mono ?_
      rintro e w' ⟨rfl, rfl⟩
      go_wp2_with fail
      refine (HB.out _ rfl).mono ?_
      rintro e w' ⟨rfl, rfl⟩
      go_wp2_with fail
      go_ret
      exact ⟨by rw [HC.out]; rfl, rfl⟩
end Go.Proofs.Ytlmgabhdeeehmaa
