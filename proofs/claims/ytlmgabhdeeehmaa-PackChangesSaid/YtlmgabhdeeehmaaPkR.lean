/-
  The walks of pack's reader: must, one, number.
-/
import Derived.Test.YtlmgabhdeeehmaaPkW
namespace Go.Proofs.Ytlmgabhdeeehmaa
open Go.RowKit
set_option linter.unusedVariables false
set_option linter.unusedSimpArgs false

/-- the reader at block G: the bytes that are left, the point ahead -/
def InvR (W : World) (G : Nat) (rest : List Nat) (vl : Value) (last : Option (List Nat)) (w : World) : Prop :=
  ∃ vb, w.heap[G]? = some (.cells #[vb, vl] 144 (0, 0)) ∧ RdB W vb rest ∧ (match last with | none => vl = .slice none 0 0 | some p => PtNew w vl p) ∧ Below W.heap.size W w ∧ W.heap.size ≤ G
/-- all but block G stands -/
def KeepR (G : Nat) (w w' : World) : Prop := (∀ b o, w.heap[b]? = some o → b ≠ G → w'.heap[b]? = some o) ∧ w.heap.size ≤ w'.heap.size
theorem KeepR.refl (G : Nat) (w : World) : KeepR G w w := ⟨fun b o h _ => h, Nat.le_refl _⟩
theorem KeepR.trans {G : Nat} {a b c : World} (h : KeepR G a b) (k : KeepR G b c) : KeepR G a c := ⟨fun x o h1 h2 => k.1 x o (h.1 x o h1 h2) h2, Nat.le_trans h.2 k.2⟩
theorem KeepR.below {G : Nat} {w w' : World} (h : Below w.heap.size w w') : KeepR G w w' := ⟨fun b o h1 _ => (h.block b (lt_of_block h1)).trans h1, h.size⟩
theorem KeepR.set {G k : Nat} {w : World} {u : Value} : KeepR G w (w.setCell ⟨G, k, none⟩ u) := ⟨fun b o h1 h3 => (Below.heap_setCell _ _ _ _ h3).trans h1, by simp⟩
theorem PtNew.keepR {G : Nat} {w w' : World} {u : Value} {p : List Nat} {cG : Array Value} {tG : TypeId} {fG : Nat × Nat} (h : PtNew w u p) (hG : w.heap[G]? = some (.cells cG tG fG)) (ht : tG ≠ 32) (hk : KeepR G w w') : PtNew w' u p :=
  h.keepBlock fun b cur fr hbk => (hk.1 b _ hbk (ne_type hbk hG (fun e => ht e.symm))).trans hbk.symm
theorem InvR.lt {W w : World} {G : Nat} {rest : List Nat} {vl : Value} {last : Option (List Nat)} (h : InvR W G rest vl last w) : G < w.heap.size := let ⟨_, h, _⟩ := h; lt_of_block h
theorem InvR.bel {W w : World} {G : Nat} {rest : List Nat} {vl : Value} {last : Option (List Nat)} (h : InvR W G rest vl last w) : Below W.heap.size W w := let ⟨_, _, _, _, h, _⟩ := h; h
theorem InvR.below {W w w' : World} {G : Nat} {rest : List Nat} {vl : Value} {last : Option (List Nat)} (h : InvR W G rest vl last w) (hb : Below w.heap.size w w') : InvR W G rest vl last w' := by
  obtain ⟨vb, h1, h2, h3, h4, h5⟩ := h
  refine ⟨vb, (hb.block G (lt_of_block h1)).trans h1, h2, ?_, h4.trans (hb.mono h4.size), h5⟩
  cases last with
  | none => exact h3
  | some p => exact PtNew.below h3 hb

set_option maxRecDepth 8000 in
theorem must_true (e : Int) (w : World) : Calls Try.prog 101 #[.bool true, .int .i64 e] w fun e' w' => e' = .returned (.tuple #[]) ∧ w' = w := by
  go_enter Try.func101, Try.ntmps101
  go_wp2_with fail
  go_end0
  exact ⟨rfl, rfl⟩

theorem RdB.tail {W : World} {b o c : Nat} {x : Nat} {l : List Nat} (h : RdB W (.slice (some ⟨b, o, none⟩) (l.length + 1) c) (x :: l)) :
    RdB W (.slice (if c = 1 then some (⟨b, o, none⟩ : Addr) else some ⟨b, o + 1, none⟩) l.length (c - 1)) l := by
  obtain ⟨A, c', e, ⟨h1, h2, h3⟩, hx⟩ := h
  injection e with e1 e2 e3
  subst e1 e3
  obtain ⟨b', o', ha, hch⟩ := hx (by simp)
  injection ha with ha
  injection ha with ha1 ha2
  subst ha1 ha2
  simp only [List.length_cons] at h1
  refine ⟨_, _, rfl, ⟨by omega, by omega, fun h => by split <;> exact ⟨_, _, rfl⟩⟩, fun hp => ⟨b, o + 1, by rw [if_neg (by omega)], fun j hj => ?_⟩⟩
  have := hch (j + 1) (by simpa using hj)
  rw [show o + 1 + j = o + (j + 1) by omega]
  simpa using this

set_option maxRecDepth 8000 in
set_option maxHeartbeats 1000000 in
theorem one_any (W w : World) (G c : Nat) (rest : List Nat) (vl : Value) (last : Option (List Nat)) (hi : InvR W G (c :: rest) vl last w) (hn : rest.length ≤ 1000000) :
    Calls Try.prog 145 #[.pointer (some ⟨G, 0, none⟩)] w fun e w' => e = .returned (.int .u8 ((c : Nat) : Int)) ∧ InvR W G rest vl last w' ∧ KeepR G w w' := by
  have hlG := hi.lt
  obtain ⟨vb, hblk, hrd, hl, hb, hG⟩ := hi
  obtain ⟨k0, k1, kf⟩ := cells_of_two hblk
  have HR := Lib.hid hrd
  obtain ⟨A, cp, rfl, ⟨hc1, hc2, hc3⟩, hx⟩ := hrd
  simp only [List.length_cons] at *
  obtain ⟨bk, ofs, rfl, hc⟩ := hx (by omega)
  have m0 := Below.keeps hb _ _ (hc 0 (by omega))
  simp only [Nat.add_zero, List.getElem_cons_zero] at m0
  have hmlt : bk < w.heap.size := World.block_lt_of_cell? w _ m0
  obtain ⟨Ax, hAx⟩ : ∃ Ax, (if cp = 1 then some (⟨bk, ofs, none⟩ : Addr) else some ⟨bk, ofs + 1, none⟩) = Ax := ⟨_, rfl⟩
  have HT := Lib.hid (show RdB W (.slice Ax rest.length (cp - 1)) rest from hAx ▸ RdB.tail HR.out)
  have HI := Lib.hid (And.intro hblk (And.intro hl (And.intro hb hG)))
  have s1 : (rest.length : Int) + 1 > 0 := by omega
  have s2 : (0 : Int) < (rest.length : Int) + 1 := by omega
  have s3 : (1 : Int) ≤ (rest.length : Int) + 1 := by omega
  clear hblk hl hb hG hc hx hc2 hc3 HR
  go_enter Try.func145, Try.ntmps145
  go_wp2_with fail
  refine (must_true 10 _).mono ?_
  rintro e w1 ⟨rfl, rfl⟩
  go_wp2_with fail
  go_ret
  refine ⟨rfl, ⟨_, two_setCell HI.out.1, HT.out, ?_, HI.out.2.2.1.setCell HI.out.2.2.2 _, HI.out.2.2.2⟩, KeepR.set⟩
  cases last with
  | none => exact HI.out.2.1
  | some p => exact PtNew.keepR HI.out.2.1 HI.out.1 (by decide) KeepR.set

theorem and_127 (c : Nat) (h : c < 256) : bits .and .u8 (c : Int) 127 = ((c % 128 : Nat) : Int) := by
  have h0 : ∀ m : Fin 256, bits .and .u8 ((m.val : Nat) : Int) 127 = ((m.val % 128 : Nat) : Int) := by decide +kernel
  exact h0 ⟨c, h⟩
theorem or_digit (acc d s : Nat) (h1 : acc < 2 ^ s) (h2 : acc + d * 2 ^ s < 2 ^ 64) : bits .or .u64 (acc : Int) ((d * 2 ^ s : Nat) : Int) = ((acc + d * 2 ^ s : Nat) : Int) := by
  rw [bits_or_u64_nat _ _ (by omega) (by omega)]
  have := Nat.two_pow_add_eq_or_of_lt (i := s) h1 d
  rw [Nat.or_comm, Nat.mul_comm, ← this]
  omega
theorem shl_digit (d s : Nat) (hs : s ≤ 63) (h2 : d * 2 ^ s < 2 ^ 64) : IntKind.u64.wrap ((d : Int) * 2 ^ s) = ((d * 2 ^ s : Nat) : Int) := by
  rw [show ((d : Int) * 2 ^ s) = ((d * 2 ^ s : Nat) : Int) by push_cast; rfl]
  unfold IntKind.wrap; simp only [IntKind.bits, IntKind.signed]
  simp only [Bool.false_eq_true, if_false, Bool.false_and]
  omega

/-- so much of a number has been read -/
structure NumAt (u j cur acc s : Nat) : Prop where
  j9 : j ≤ 9
  s7 : s = 7 * j
  tot : acc + cur * 2 ^ s = u
  lt : acc < 2 ^ s
  pos : j = 0 ∨ 1 ≤ cur
theorem NumAt.s63 {u j cur acc s : Nat} (h : NumAt u j cur acc s) : s ≤ 63 := by have := h.j9; have := h.s7; omega
theorem NumAt.digit {u j cur acc s : Nat} (h : NumAt u j cur acc s) (hu : u < 2 ^ 64) (d : Nat) (hd : d ≤ cur) : acc + d * 2 ^ s < 2 ^ 64 ∧ d * 2 ^ s < 2 ^ 64 := by
  have h1 := h.tot
  have h2 : d * 2 ^ s ≤ cur * 2 ^ s := Nat.mul_le_mul_right _ hd
  omega
theorem NumAt.last {u cur acc s : Nat} (h : NumAt u 9 cur acc s) (hu : u < 2 ^ 64) : cur ≤ 1 := by
  have h1 := h.tot
  have h2 : s = 63 := by have := h.s7; omega
  subst h2
  omega
theorem NumAt.next {u j cur acc s : Nat} (h : NumAt u j cur acc s) (h8 : j < 9) (h128 : 128 ≤ cur) : NumAt u (j + 1) (cur / 128) (acc + cur % 128 * 2 ^ s) (s + 7) := by
  have hp : 2 ^ (s + 7) = 2 ^ s * 128 := by rw [Nat.pow_add]
  have h1 := h.lt
  refine ⟨by omega, by have := h.s7; omega, ?_, ?_, .inr (by omega)⟩
  · rw [← h.tot, hp]
    generalize 2 ^ s = M at *
    have e : cur = 128 * (cur / 128) + cur % 128 := (Nat.div_add_mod cur 128).symm
    have e1 : cur * M = (128 * (cur / 128) + cur % 128) * M := by rw [← e]
    rw [e1, Nat.add_mul, Nat.mul_comm M 128, ← Nat.mul_assoc, Nat.mul_comm (cur / 128) 128]
    omega
  · rw [hp]
    generalize 2 ^ s = M at *
    have h2 : cur % 128 ≤ 127 := by omega
    have h3 : cur % 128 * M ≤ 127 * M := Nat.mul_le_mul_right _ h2
    omega

set_option maxRecDepth 8000 in
set_option maxHeartbeats 2000000 in
theorem rNumber_any (W w : World) (G u : Nat) (rest : List Nat) (vl : Value) (last : Option (List Nat)) (hi : InvR W G (Pk.leb u ++ rest) vl last w) (hu : u < 2 ^ 64) (hn : rest.length ≤ 100000) :
    Calls Try.prog 146 #[.pointer (some ⟨G, 0, none⟩)] w fun e w' => e = .returned (.int .u64 ((u : Nat) : Int)) ∧ InvR W G rest vl last w' ∧ KeepR G w w' := by
  have HU := Lib.hid (And.intro hu (And.intro hn hi))
  clear hu hn hi
  go_enter Try.func146, Try.ntmps146
  go_wp2_with fail
  go_loopw [3, 4] (fun vu vs wr => ∃ (j cur acc s : Nat), vu = .int .u64 (acc : Nat) ∧ vs = .int .i64 (s : Nat) ∧ NumAt u j cur acc s ∧ InvR W G (Pk.lebF (9 - j) cur ++ rest) vl last wr ∧ KeepR G w wr) (fun _ vs _ => 63 - (intOf vs).toNat)
  case atStart => exact ⟨0, u, 0, 0, rfl, rfl, ⟨by omega, rfl, by omega, by omega, .inl rfl⟩, HU.out.2.2, KeepR.refl _ _⟩
  case round =>
    obtain ⟨j, cur, acc, s, rfl, rfl, hN, hI, hkw⟩ := hrel
    have HN := Lib.hid hN
    have HKw := Lib.hid hkw
    have hs63 := hN.s63
    by_cases h128 : 128 ≤ cur
    · have hj8 : j < 9 := by
        rcases Nat.lt_or_ge j 9 with h | h
        · exact h
        · obtain rfl : j = 9 := by have := hN.j9; omega
          have := hN.last HU.out.1; omega
      obtain ⟨m, hm⟩ : ∃ m, 9 - j = m + 1 := ⟨8 - j, by omega⟩
      rw [hm, Pk.lebF_big _ _ h128] at hI
      have HI := Lib.hid hI
      have HM := Lib.hid (show m = 9 - (j + 1) by omega)
      have hdig := hN.digit HU.out.1 (cur % 128) (Nat.mod_le _ _)
      have HX := Lib.hid (hN.next hj8 h128)
      have HLen := Lib.hid (show (Pk.lebF m (cur / 128) ++ rest).length ≤ 1000000 by
        have := (Pk.lebF_length m (cur / 128)).2
        have := HU.out.2.1
        have := hN.j9
        rw [List.length_append]; omega)
      have hand := and_127 (cur % 128 + 128) (by omega)
      rw [show (cur % 128 + 128) % 128 = cur % 128 by omega] at hand
      have hshl := shl_digit (cur % 128) s hs63 hdig.2
      have hor := or_digit acc (cur % 128) s hN.lt hdig.1
      have hcb : cur % 128 + 128 < 256 := by omega
      have hw1 : IntKind.u64.wrap ((cur % 128 : Nat) : Int) = ((cur % 128 : Nat) : Int) := by unfold IntKind.wrap; simp [IntKind.bits, IntKind.signed]; omega
      have hs7 : s < 63 := by have := hN.s7; omega
      have hc128 : 128 ≤ cur % 128 + 128 := by omega
      generalize cur % 128 * 2 ^ s = x at *
      generalize cur % 128 + 128 = c at *
      generalize cur % 128 = d at *
      generalize acc + x = acc2 at *
      have t1 : (s : Int) < 63 := by omega
      have t2 : ¬ (c : Int) < 128 := by omega
      have HW := Lib.hid (show wrap64 ((s : Int) + 7) = ((s + 7 : Nat) : Int) by unfold wrap64; omega)
      clear hN hI hkw h128 hm hdig hs63 hcb hc128 hs7
      go_wp2_with fail
      refine (one_any W _ G c _ vl last HI.out HLen.out).mono ?_
      rintro e w4 ⟨rfl, hI4, hk4⟩
      have HI4 := Lib.hid hI4
      have HK4 := Lib.hid (HKw.out.trans hk4)
      clear hI4 hk4
      go_wp2_with fail
      refine (must_true 11 _).mono ?_
      rintro e w5 ⟨rfl, rfl⟩
      go_wp2_with fail
      go_roundw
      case rel => exact ⟨j + 1, cur / 128, acc2, s + 7, rfl, by first | rw [HW.out] | exact congrArg (Value.int .i64) (by omega), HX.out, by rw [← HM.out]; exact HI4.out, HK4.out⟩
      case measure => first | (rw [intOf_of' HW.out, intOf_of' rfl]; omega) | (rw [intOf_of' rfl, intOf_of' rfl]; omega)
    · rw [Pk.lebF_small _ _ (by omega)] at hI
      have HI := Lib.hid hI
      have hdig := hN.digit HU.out.1 cur (Nat.le_refl _)
      have HLen := Lib.hid (show ([] ++ rest : List Nat).length ≤ 1000000 by have := HU.out.2.1; simp; omega)
      have hand := and_127 cur (by omega)
      rw [Nat.mod_eq_of_lt (by omega)] at hand
      have hshl := shl_digit cur s hs63 hdig.2
      have hor := or_digit acc cur s hN.lt hdig.1
      have hw1 : IntKind.u64.wrap ((cur : Nat) : Int) = ((cur : Nat) : Int) := by unfold IntKind.wrap; simp [IntKind.bits, IntKind.signed]; omega
      have HT := Lib.hid hN.tot
      rw [hN.tot] at hor
      have h1 : s < 63 ∨ cur ≤ 1 := by
        rcases Nat.lt_or_ge j 9 with h | h
        · left; have := hN.s7; omega
        · obtain rfl : j = 9 := by have := hN.j9; omega
          right; exact hN.last HU.out.1
      have h2 : 0 < cur ∨ s = 0 := by
        rcases hN.pos with h | h
        · right; have := hN.s7; omega
        · left; exact h
      by_cases q2 : 0 < cur
      · generalize cur * 2 ^ s = x at *
        have t2 : (cur : Int) < 128 := by omega
        have t5 : (cur : Int) > 0 := by omega
        have t6 : (0 : Int) < cur := by omega
        clear hN hI hkw hdig h2
        by_cases q1 : s < 63
        · have t3 : (s : Int) < 63 := by omega
          clear q1 h1 hs63 h128
          go_wp2_with fail
          refine (one_any W _ G cur _ vl last HI.out HLen.out).mono ?_
          rintro e w4 ⟨rfl, hI4, hk4⟩
          have HI4 := Lib.hid hI4
          have HK4 := Lib.hid (HKw.out.trans hk4)
          clear hI4 hk4
          go_wp2_with fail
          refine (must_true 11 _).mono ?_
          rintro e w5 ⟨rfl, rfl⟩
          go_wp2_with fail
          refine (must_true 9 _).mono ?_
          rintro e w6 ⟨rfl, rfl⟩
          go_wp2_with fail
          go_ret
          exact ⟨rfl, HI4.out, HK4.out⟩
        · have t3 : ¬ (s : Int) < 63 := by omega
          have t4 : (cur : Int) ≤ 1 := by omega
          have hshl2 : IntKind.u64.wrap ((cur : Int) * 2 ^ min s 64) = (x : Int) := by rw [Nat.min_eq_left (by omega)]; exact hshl
          clear q1 h1 hs63 h128
          go_wp2_with fail
          refine (one_any W _ G cur _ vl last HI.out HLen.out).mono ?_
          rintro e w4 ⟨rfl, hI4, hk4⟩
          have HI4 := Lib.hid hI4
          have HK4 := Lib.hid (HKw.out.trans hk4)
          clear hI4 hk4
          go_wp2_with fail
          refine (must_true 11 _).mono ?_
          rintro e w5 ⟨rfl, rfl⟩
          go_wp2_with fail
          refine (must_true 9 _).mono ?_
          rintro e w6 ⟨rfl, rfl⟩
          go_wp2_with fail
          go_ret
          exact ⟨rfl, HI4.out, HK4.out⟩
      · obtain rfl : cur = 0 := by omega
        obtain rfl : s = 0 := by omega
        obtain rfl : acc = 0 := by have := hN.lt; omega
        obtain rfl : u = 0 := by have := hN.tot; omega
        clear hN hI hkw hdig h2 h1 hand hshl hor hw1 hs63 q2 h128
        have hw1 : IntKind.u64.wrap 0 = 0 := by decide
        have hor : bits .or .u64 0 0 = 0 := by decide
        go_wp2_with fail
        refine (one_any W _ G 0 _ vl last HI.out HLen.out).mono ?_
        rintro e w4 ⟨rfl, hI4, hk4⟩
        have HI4 := Lib.hid hI4
        have HK4 := Lib.hid (HKw.out.trans hk4)
        clear hI4 hk4
        go_wp2_with fail
        refine (must_true 11 _).mono ?_
        rintro e w5 ⟨rfl, rfl⟩
        go_wp2_with fail
        refine (must_true 9 _).mono ?_
        rintro e w6 ⟨rfl, rfl⟩
        go_wp2_with fail
        go_ret
        exact ⟨rfl, HI4.out, HK4.out⟩
end Go.Proofs.Ytlmgabhdeeehmaa
