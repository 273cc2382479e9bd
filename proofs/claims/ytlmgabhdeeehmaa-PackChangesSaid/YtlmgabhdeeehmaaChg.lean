/-
  Lists of changes: what they read as; the walks of edit.right and of pantileref13.Heavy.
-/
import Derived.Test.YtlmgabhdeeehmaaZw2
namespace Go.Proofs.Ytlmgabhdeeehmaa
open Go.RowKit
set_option linter.unusedVariables false

/-- a change -/
structure Ch where
  p : List Nat
  had : Bool
  has : Bool
  old : Nat
  new : Nat

/-- the change's five cells at block b, from o on -/
def ChAt (w : World) (b o : Nat) (c : Ch) : Prop :=
  ∃ v, w.cell? ⟨b, o, none⟩ = some v ∧ RdU w v (pti c.p) ∧ w.cell? ⟨b, o + 1, none⟩ = some (.bool c.had) ∧ w.cell? ⟨b, o + 2, none⟩ = some (.bool c.has) ∧
    w.cell? ⟨b, o + 3, none⟩ = some (.int .u64 (c.old : Nat)) ∧ w.cell? ⟨b, o + 4, none⟩ = some (.int .u64 (c.new : Nat))
/-- the slice value v reads as the list l of changes -/
def RdC (w : World) (v : Value) (l : List Ch) : Prop :=
  ∃ A c, v = .slice A l.length c ∧ (0 < l.length → ∃ b o, A = some ⟨b, o, none⟩ ∧ ∀ j (h : j < l.length), ChAt w b (o + j * 5) l[j])
theorem ChAt.keep {w w' : World} {b o : Nat} {c : Ch} (h : ChAt w b o c) (hk : ∀ a x, w.cell? a = some x → w'.cell? a = some x) : ChAt w' b o c := by
  obtain ⟨v, h0, hv, h1, h2, h3, h4⟩ := h
  exact ⟨v, hk _ _ h0, RdU.keep hv hk, hk _ _ h1, hk _ _ h2, hk _ _ h3, hk _ _ h4⟩
theorem RdC.keep {w w' : World} {v : Value} {l : List Ch} (h : RdC w v l) (hk : ∀ a x, w.cell? a = some x → w'.cell? a = some x) : RdC w' v l := by
  obtain ⟨A, c, e, h⟩ := h
  exact ⟨A, c, e, fun hp => let ⟨b, o, ha, hc⟩ := h hp; ⟨b, o, ha, fun j hj => (hc j hj).keep hk⟩⟩
theorem RdC.below {w w' : World} {v : Value} {l : List Ch} (h : RdC w v l) (hb : Below w.heap.size w w') : RdC w' v l := RdC.keep h (Below.keeps hb)

/-- may a change be? -/
def rightBits (had has b1 b2 b3 : Bool) : Bool := !(!had && b1 || !has && b2) && !(!had && !has) && ((had != has) || b3)
def Ch.right (c : Ch) : Bool := rightBits c.had c.has ((c.old : Int) != 0) ((c.new : Int) != 0) ((c.old : Int) != (c.new : Int))

set_option maxHeartbeats 2000000 in
theorem right_bits (v : Value) (had has b1 b2 b3 : Bool) (old new : Int) (w : World) (e1 : (old != 0) = b1) (e2 : (new != 0) = b2) (e3 : (old != new) = b3) :
    Calls Try.prog 83 #[.agg #[v, .bool had, .bool has, .int .u64 old, .int .u64 new]] w fun e w' => e = .returned (.bool (rightBits had has b1 b2 b3)) ∧ w' = w.alloc (.cells #[v, .bool had, .bool has, .int .u64 old, .int .u64 new] 114) := by
  cases had <;> cases has <;> cases b1 <;> cases b2 <;> cases b3
  all_goals
    go_enter Try.func83, Try.ntmps83
    go_wp2_with fail
    go_ret
    exact ⟨rfl, rfl⟩
theorem right_any (v : Value) (c : Ch) (w : World) :
    Calls Try.prog 83 #[.agg #[v, .bool c.had, .bool c.has, .int .u64 (c.old : Nat), .int .u64 (c.new : Nat)]] w fun e w' => e = .returned (.bool c.right) ∧ w' = w.alloc (.cells #[v, .bool c.had, .bool c.has, .int .u64 (c.old : Nat), .int .u64 (c.new : Nat)] 114) :=
  right_bits v c.had c.has _ _ _ _ _ w rfl rfl rfl

/-- are changes more than are gone through? -/
def heavyB (l : List Ch) (most : Nat) : Bool := decide (most < l.length) || l.any fun c => decide (40 < c.p.length)

set_option maxHeartbeats 400000 in
theorem Heavy_any (l : List Ch) (most : Nat) (v : Value) (w : World) (hv : RdC w v l) (hm : most ≤ 1000) :
    Calls Try.prog 37 #[v, .int .i64 most] w fun e w' => e = .returned (.bool (heavyB l most)) ∧ w' = w := by
  obtain ⟨A, c, rfl, ga0⟩ := hv
  by_cases hlen : most < l.length
  · have h1 : (l.length : Int) > most := by omega
    have HE := Lib.hid (show heavyB l most = true by unfold heavyB; simp [hlen])
    clear hlen ga0 hm
    go_enter Try.func37, Try.ntmps37
    go_wp2_with fail
    go_ret
    exact ⟨by rw [HE.out]; rfl, rfl⟩
  · have h1 : ¬ (l.length : Int) > most := by omega
    have HD := Lib.hid (And.intro hlen hm)
    clear hlen hm
    go_enter Try.func37, Try.ntmps37
    go_wp2_with fail
    go_loop [5] (fun i => ∃ k : Nat, k ≤ l.length ∧ i = .int .i64 k ∧ (l.take k).any (fun c => decide (40 < c.p.length)) = false) (fun i => l.length - (intOf i).toNat)
    case atStart => exact ⟨0, Nat.zero_le _, rfl, rfl⟩
    case round =>
      obtain ⟨k, hk, rfl, ht⟩ := hrel
      by_cases hlt : k < l.length
      · have h3 : (k : Int) < l.length := by omega
        have h5 : (0 : Int) ≤ (k : Int) := by omega
        obtain ⟨b, o, rfl, ga⟩ := ga0 (by omega)
        obtain ⟨v0, c0, hv0, c1, c2, c3, c4⟩ := ga k hlt
        obtain ⟨A0, cc, rfl, hx0⟩ := RdU.point hv0
        clear hx0
        have HW := Lib.hid (show wrap64 ((k : Int) + 1) = ((k + 1 : Nat) : Int) by have := HD.out; unfold wrap64; omega)
        have HG := Lib.hid ga0
        clear ga ga0 c1 c2 c3 c4 hv0
        by_cases hb : 40 < l[k].p.length
        · have h6 : (l[k].p.length : Int) > 40 := by omega
          have HE := Lib.hid (show heavyB l most = true by
            unfold heavyB
            simp only [Bool.or_eq_true]
            right
            exact List.any_eq_true.2 ⟨l[k], List.getElem_mem hlt, by simpa using hb⟩)
          clear hb ht
          generalize l[k].p.length = y at *
          go_wp2_with fail
          go_ret
          exact ⟨by rw [HE.out]; rfl, rfl⟩
        · have h6 : ¬ (l[k].p.length : Int) > 40 := by omega
          have HT := Lib.hid (show (l.take (k + 1)).any (fun c => decide (40 < c.p.length)) = false by
            rw [← List.take_append_getElem hlt, List.any_append, ht]; simp; omega)
          clear hb ht
          generalize l[k].p.length = y at *
          go_wp2_with fail
          go_round
          case rel => exact ⟨k + 1, by omega, by rw [HW.out], HT.out⟩
          case measure => rw [intOf_of' HW.out, intOf_of' rfl]; omega
      · have HE := Lib.hid (show heavyB l most = false by
          rw [List.take_of_length_le (by omega)] at ht
          unfold heavyB
          rw [ht]; simp; have := HD.out.1; omega)
        clear ht
        go_wp2_with fail
        go_ret
        exact ⟨by rw [HE.out]; rfl, rfl⟩
end Go.Proofs.Ytlmgabhdeeehmaa
