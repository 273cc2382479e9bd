/-
  The walk of edit.Then.
-/
import Derived.Test.YtmeffkgdmimpdaaPairs
namespace Go.Proofs.Ytmeffkgdmimpdaa
open Go.RowKit
set_option linter.unusedVariables false
set_option linter.unusedSimpArgs false

/-- what edit.Then hands back -/
def ThenQ (W : World) (r : Bool) (o : Option (List Ch)) (e : Ending) (w' : World) : Prop :=
  (match r, o with
  | false, _ => e = .returned (.tuple #[.slice none 0 0, .int .i64 9])
  | true, none => e = .returned (.tuple #[.slice none 0 0, .int .i64 7])
  | true, some l => ∃ A c, e = .returned (.tuple #[.slice A l.length c, .int .i64 0]) ∧ RdC w' (.slice A l.length c) l ∧ CapOk (.slice A l.length c)) ∧ Below W.heap.size W w'

theorem tell_any (W : World) (B : Nat) (a b : List Ch) (n : Nat) (ra : Rt n a) (rb : Rt n b) (n1 : 1 ≤ n) (n16 : n ≤ 16) (hW : W.heap.size ≤ B) (d : List (Option Ch × Option Ch)) (p : Option Ch × Option Ch) (px py : Value) (w : World)
    (hi : InvT W B (d.filterMap combC) w) (hx : PtrC w px p.1) (hy : PtrC w py p.2) (ha : ∀ x, p.1 = some x → x ∈ a) (hb : ∀ y, p.2 = some y → y ∈ b) (hd : d.length ≤ 1000) (hp : p ≠ (none, none)) :
    Calls Try.prog 16 #[px, py, .pointer (some ⟨B, 0, none⟩)] w fun e w' => e = .returned (.bool (fitC p)) ∧ (fitC p = true → InvT W B ((d ++ [p]).filterMap combC) w') ∧ Below W.heap.size W w' := by
  have hl : (d.filterMap combC).length ≤ 10000 := Nat.le_trans (List.length_filterMap_le _ _) (by omega)
  obtain ⟨p1, p2⟩ := p
  cases p1 with
  | none =>
    cases p2 with
    | none => exact absurd rfl hp
    | some y =>
      obtain rfl : px = .pointer none := hx
      have hm := hb y rfl
      refine (tellY W w B _ y py hW hi hy (by rw [rb.len y hm]; exact n1) (by rw [rb.len y hm]; omega) hl).mono fun e w' ⟨h1, h2⟩ => ⟨h1, fun _ => ?_, h2.bel⟩
      rw [List.filterMap_append]; exact h2
  | some x =>
    have hm := ha x rfl
    cases p2 with
    | none =>
      obtain rfl : py = .pointer none := hy
      refine (tellX W w B _ x px hW hi hx (by rw [ra.len x hm]; exact n1) (by rw [ra.len x hm]; omega) hl).mono fun e w' ⟨h1, h2⟩ => ⟨h1, fun _ => ?_, h2.bel⟩
      rw [List.filterMap_append]; exact h2
    | some y =>
      refine (tellXY W w B _ x y px py hW hi hx hy (by rw [ra.len x hm]; exact n1) (by rw [ra.len x hm]; omega) hl).mono fun e w' ⟨h1, h2, h3⟩ => ⟨h1, fun h => ?_, h3⟩
      have := h2 h
      rw [List.filterMap_append]
      cases hc : combC (some x, some y) with
      | none => rw [hc] at this; simpa [hc] using this
      | some z => rw [hc] at this; simpa [hc] using this

set_option maxRecDepth 8000 in
set_option maxHeartbeats 1000000 in
theorem eThen_any (k : Int) (a b : List Ch) (va vb : Value) (w : World) (ha : RdC w va a ∧ CapOk va) (hb : RdC w vb b ∧ CapOk vb) (na : a.length ≤ 400) (nb : b.length ≤ 400) (oa : OkC a) (ob : OkC b) :
    Calls Try.prog 8 #[.int .i64 k, va, vb] w fun e w' => ThenQ w (rightL k a && rightL k b) (thenL a b) e w' := by
  have H1 := Lib.hid (eRight_any k a va w ha.1 (by omega) oa)
  have H2 := Lib.hid (fun (w' : World) (h : RdC w' vb b) => eRight_any k b vb w' h (by omega) ob)
  have HR := Lib.hid (And.intro ha hb)
  have HO := Lib.hid (And.intro oa (And.intro ob (And.intro na nb)))
  clear ha hb na nb oa ob
  cases r1 : rightL k a with
  | false =>
    rw [r1] at H1
    clear r1 H2 HO
    go_enter Try.func8, Try.ntmps8
    go_wp2_with fail
    refine H1.out.mono ?_
    rintro e w1 ⟨rfl, hb1⟩
    go_wp2_with fail
    go_ret2
    exact ⟨rfl, hb1⟩
  | true =>
    rw [r1] at H1
    cases r2 : rightL k b with
    | false =>
      rw [r2] at H2
      clear r1 r2 HO
      go_enter Try.func8, Try.ntmps8
      go_wp2_with fail
      refine H1.out.mono ?_
      rintro e w1 ⟨rfl, hb1⟩
      have HB1 := Lib.hid hb1
      clear hb1
      go_wp2_with fail
      refine (H2.out _ (HR.out.2.1.below HB1.out)).mono ?_
      rintro e w2 ⟨rfl, hb2⟩
      have HB2 := Lib.hid (HB1.out.trans (hb2.mono HB1.out.size))
      clear hb2
      go_wp2_with fail
      go_ret2
      exact ⟨rfl, HB2.out⟩
    | true =>
      rw [r2] at H2
      obtain ⟨n, rfl, n1, n16, ra⟩ := rightL_rt HO.out.1 r1
      obtain ⟨n', e', _, _, rb⟩ := rightL_rt HO.out.2.1 r2
      obtain rfl : n' = n := by omega
      have HP := Lib.hid (fun (B : Nat) (w' : World) (hB : w.heap.size ≤ B) (hi : InvT w B [] w') => pairs_any w w' 16 #[.pointer (some ⟨B, 0, none⟩)] fitC (fun d w'' => InvT w B (d.filterMap combC) w'') a b va vb n' ra rb ⟨n1, n16⟩ (by have := HO.out.2.2; omega) (enters_func Try.func16 (by kernel_rfl) (by kernel_rfl))
        (fun d p px py w2 h1 _ hx hy h2 h3 h4 h5 => tell_any w B a b n' ra rb n1 n16 hB d p px py w2 h1 hx hy h2 h3 h4 h5) (fun d w2 m ⟨vo, q1, q2, q3⟩ => ⟨vo, q1, (q2.below (drewN_below w2 m)).mono fun u p h => h.below (drewN_below w2 m), Bdrew q3 m⟩) hi hi.bel HR.out.1 HR.out.2)
      have HL := Lib.hid (show thenL a b = if (pairs a b).all fitC then some ((pairs a b).filterMap combC) else none from rfl)
      clear ra rb r1 r2 e' n1 n16
      go_enter Try.func8, Try.ntmps8
      go_wp2_with fail
      refine H1.out.mono ?_
      rintro e w1 ⟨rfl, hb1⟩
      have HB1 := Lib.hid hb1
      clear hb1
      go_wp2_with fail
      refine (H2.out _ (HR.out.2.1.below HB1.out)).mono ?_
      rintro e w2 ⟨rfl, hb2⟩
      have HB2 := Lib.hid (HB1.out.trans (hb2.mono HB1.out.size))
      clear hb2
      go_wp2_with fail
      refine (HP.out _ _ HB2.out.size ⟨.slice none 0 0, heap_alloc_new _ _, OwnC.nil _ _ _, below_alloc' HB2.out _⟩).mono ?_
      rintro e w3 ⟨rfl, hi3, hb3⟩
      have HI3 := Lib.hid (And.intro hi3 hb3)
      clear hi3 hb3
      cases hall : (pairs a b).all fitC with
      | false =>
        rw [hall] at HL
        clear hall
        go_wp2_with fail
        go_ret2
        rw [show thenL a b = none from HL.out]
        exact ⟨rfl, HI3.out.2⟩
      | true =>
        rw [hall] at HL
        obtain ⟨vo, q1, q2, q3⟩ := HI3.out.1 hall
        obtain ⟨r1, r2⟩ := q2.rd fun u p h => h.rd
        have c1 := cell_of_one q1
        obtain ⟨A, c, rfl, hx⟩ := r1
        have HRes := Lib.hid (And.intro (show RdC w3 (.slice A ((pairs a b).filterMap combC).length c) ((pairs a b).filterMap combC) from ⟨A, c, rfl, hx⟩) r2)
        clear hall q1 q2 q3 hx r2
        go_wp2_with fail
        go_ret2
        rw [show thenL a b = some ((pairs a b).filterMap combC) from HL.out]
        exact ⟨⟨A, c, rfl, HRes.out.1, HRes.out.2⟩, HI3.out.2⟩
end Go.Proofs.Ytmeffkgdmimpdaa
