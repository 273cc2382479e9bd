/-
  The walks of pantileref13.At and Apart.
-/
import Derived.Test.YtlmgabhdeeehmaaDoE
import Derived.Test.YtlmgabhdeeehmaaRef01
namespace Go.Proofs.Ytlmgabhdeeehmaa
open Go.RowKit
set_option linter.unusedVariables false
set_option linter.unusedSimpArgs false

theorem pti_inj {p q : List Nat} : decide (pti p = pti q) = decide (p = q) := by
  apply bool_ext
  simp only [decide_eq_true_eq]
  constructor
  · intro h
    unfold pti at h
    exact (List.map_inj_right (f := fun n : Nat => (n : Int)) (fun a b (h : (a : Int) = b) => by exact_mod_cast h)).1 h
  · intro h; rw [h]
def AgC (v : Value) (c : Ch) : Value := .agg #[v, .bool c.had, .bool c.has, .int .u64 (c.old : Nat), .int .u64 (c.new : Nat)]
def Zc : Value := .agg #[.slice none 0 0, .bool false, .bool false, .int .u64 0, .int .u64 0]
def Zcells : Obj := .cells #[.slice none 0 0, .bool false, .bool false, .int .u64 0, .int .u64 0] 114
/-- what At hands back -/
def AtP (W : World) (o : Option Ch) (e : Ending) (w' : World) : Prop :=
  (match o with
  | none => e = .returned (.tuple #[Zc, .bool false])
  | some c => ∃ A n cc, e = .returned (.tuple #[AgC (.slice A n cc) c, .bool true])) ∧ Below W.heap.size W w'

theorem AtP.some {W w' : World} {c : Ch} {A : Option Addr} {n cc : Nat} (h : Below W.heap.size W w') : AtP W (some c) (.returned (.tuple #[AgC (.slice A n cc) c, .bool true])) w' := ⟨⟨_, _, _, rfl⟩, h⟩
theorem AtP.none {W w' : World} (h : Below W.heap.size W w') : AtP W none (.returned (.tuple #[Zc, .bool false])) w' := ⟨rfl, h⟩
theorem atL_step (l : List Ch) (p : List Nat) (j : Nat) (h : j < l.length) (hne : ¬ l[j].p = p) : atL (l.drop j) p = atL (l.drop (j + 1)) p := by
  rw [List.drop_eq_getElem_cons h]; unfold atL
  rw [List.find?_cons]; simp [hne]
theorem atL_hit (l : List Ch) (p : List Nat) (j : Nat) (h : j < l.length) (he : l[j].p = p) : atL (l.drop j) p = some l[j] := by
  rw [List.drop_eq_getElem_cons h]; unfold atL
  rw [List.find?_cons]; simp [he]

set_option maxRecDepth 8000 in
set_option maxHeartbeats 2000000 in
theorem rAt_any (l : List Ch) (p : List Nat) (vl vp : Value) (w : World) (hl0 : RdC w vl l) (hp : RdU w vp (pti p)) (hn : l.length ≤ 1000) (h40 : ∀ c ∈ l, c.p.length ≤ 40) :
    Calls Try.prog 86 #[vl, vp] w fun e w' => AtP w (atL l p) e w' := by
  obtain ⟨A, c, rfl, ga0⟩ := hl0
  have HD := Lib.hid (And.intro hn h40)
  have HG := Lib.hid ga0
  have HP := Lib.hid hp
  clear hn ga0 hp h40
  go_enter Try.func86, Try.ntmps86
  go_wp2_with fail
  go_loopw [6] (fun i wr => ∃ (j n : Nat), j ≤ l.length ∧ i = .int .i64 j ∧ atL (l.drop j) p = atL l p ∧ wr = (w.alloc Zcells).drewN n) (fun i _ => l.length - (intOf i).toNat)
  case atStart => exact ⟨0, 0, Nat.zero_le _, rfl, rfl, rfl⟩
  case round =>
    obtain ⟨j, n, hj, rfl, hat, rfl⟩ := hrel
    by_cases hlt : j < l.length
    · have h3 : (j : Int) < l.length := by omega
      have h5 : (0 : Int) ≤ (j : Int) := by omega
      obtain ⟨bk, ofs, rfl, ga⟩ := HG.out (by omega)
      obtain ⟨v0, k0, hv0, k1, k2, k3, k4⟩ := ga j hlt
      have hblt : bk < w.heap.size := World.block_lt_of_cell? w _ k0
      have HV := Lib.hid hv0
      obtain ⟨A0, cc, rfl, hx0⟩ := RdU.point hv0
      have HS := Lib.hid (fun (w' : World) (h1 : RdU w' (.slice A0 l[j].p.length cc) (pti l[j].p)) (h2 : RdU w' vp (pti p)) => Same_any _ _ _ _ w' h1 h2 (by unfold pti; rw [List.length_map]; have := HD.out.2 _ (List.getElem_mem hlt); omega))
      rw [pti_inj] at HS
      have HW := Lib.hid (show wrap64 ((j : Int) + 1) = ((j + 1 : Nat) : Int) by have := HD.out.1; unfold wrap64; omega)
      have HB0 := Lib.hid (show Below w.heap.size w ((w.alloc Zcells).drewN n) from below_drewN' (below_alloc' (Below.refl _ _) _) _)
      clear ga hx0 hv0
      by_cases he : l[j].p = p
      · have HA := Lib.hid (hat.symm.trans (atL_hit l p j hlt he))
        rw [decide_eq_true he] at HS
        clear hat he
        unfold Zcells at *
        go_wp2_with fail
        refine (HS.out _ (HV.out.below HB0.out) (HP.out.below HB0.out)).mono ?_
        rintro e w4 ⟨rfl, m, rfl⟩
        go_wp2_with fail
        rw [HA.out]
        exact bodyPost_ret (v := .tuple #[AgC (.slice A0 l[j].p.length cc) l[j], .bool true]) (by simp [results, Try.results86, go_sem, AgC]) rfl (AtP.some (by (repeat (refine Below.setCell ?_ (by first | exact Nat.le_refl _ | (simp; done) | (simp; omega) | omega) _)); exact (by repeat (first | exact Below.refl _ _ | assumption | (refine Below.drew ?_) | (refine below_drewN' ?_ _) | (refine below_alloc' ?_ _)))))
      · have HA := Lib.hid ((atL_step l p j hlt he).symm.trans hat)
        rw [decide_eq_false he] at HS
        clear hat he
        unfold Zcells at *
        go_wp2_with fail
        refine (HS.out _ (HV.out.below HB0.out) (HP.out.below HB0.out)).mono ?_
        rintro e w4 ⟨rfl, m, rfl⟩
        go_wp2_with fail
        go_roundw
        case rel => exact ⟨j + 1, n + m, by omega, by rw [HW.out], HA.out, by first | rfl | exact World.drewN_drewN ..⟩
        case measure => rw [intOf_of' HW.out, intOf_of' rfl]; omega
    · have HA := Lib.hid (show atL l p = none by rw [← hat, List.drop_of_length_le (by omega)]; rfl)
      clear hat
      unfold Zcells at *
      go_wp2_with fail
      rw [HA.out]
      exact bodyPost_ret (v := .tuple #[Zc, .bool false]) (by simp [results, Try.results86, go_sem, Zc]) rfl (AtP.none (by (repeat (refine Below.setCell ?_ (by first | exact Nat.le_refl _ | (simp; done) | (simp; omega) | omega) _)); exact (by repeat (first | exact Below.refl _ _ | assumption | (refine Below.drew ?_) | (refine below_drewN' ?_ _) | (refine below_alloc' ?_ _)))))

set_option maxRecDepth 8000 in
set_option maxHeartbeats 2000000 in
theorem rApart_any (a l : List Ch) (va vl : Value) (w : World) (ha0 : RdC w va a) (hl0 : RdC w vl l) (hn : l.length ≤ 1000) (h40 : ∀ c ∈ l, c.p.length ≤ 40) (hna : a.length ≤ 1000) :
    Calls Try.prog 41 #[va, vl] w fun e w' => e = .returned (.bool (rapartL a l)) ∧ Below w.heap.size w w' := by
  obtain ⟨A, c, rfl, ga0⟩ := ha0
  have HT := Lib.hid (fun (p : List Nat) (vp : Value) (w' : World) (h1 : RdC w' vl l) (h2 : RdU w' vp (pti p)) => rAt_any l p vl vp w' h1 h2 hn h40)
  have HD := Lib.hid hna
  have HL := Lib.hid hl0
  have HG := Lib.hid ga0
  clear hn h40 hna hl0 ga0
  go_enter Try.func41, Try.ntmps41
  go_wp2_with fail
  go_loopw [5] (fun i wr => ∃ (j : Nat), j ≤ a.length ∧ i = .int .i64 j ∧ rapartL (a.drop j) l = rapartL a l ∧ Below w.heap.size w wr) (fun i _ => a.length - (intOf i).toNat)
  case atStart => exact ⟨0, Nat.zero_le _, rfl, rfl, (by repeat (first | exact Below.refl _ _ | assumption | (refine Below.drew ?_) | (refine below_drewN' ?_ _) | (refine below_alloc' ?_ _)))⟩
  case round =>
    obtain ⟨j, hj, rfl, hat, hb⟩ := hrel
    have HB := Lib.hid hb
    clear hb
    by_cases hlt : j < a.length
    · have h3 : (j : Int) < a.length := by omega
      have h5 : (0 : Int) ≤ (j : Int) := by omega
      obtain ⟨bk, ofs, rfl, ga⟩ := HG.out (by omega)
      obtain ⟨v0, k0, hv0, k1, k2, k3, k4⟩ := (ga j hlt).keep (Below.keeps HB.out)
      have hblt : bk < wr.heap.size := World.block_lt_of_cell? wr _ k0
      have HV := Lib.hid hv0
      obtain ⟨A0, cc, rfl, hx0⟩ := RdU.point hv0
      have HW := Lib.hid (show wrap64 ((j : Int) + 1) = ((j + 1 : Nat) : Int) by have := HD.out; unfold wrap64; omega)
      rw [List.drop_eq_getElem_cons hlt, show rapartL (a[j] :: a.drop (j + 1)) l = ((atL l a[j].p).isNone && rapartL (a.drop (j + 1)) l) from rfl] at hat
      have HT2 := Lib.hid (HT.out a[j].p _ wr (HL.out.below HB.out) HV.out)
      clear ga hx0 hv0 k1 k2 k3 k4
      cases ho : atL l a[j].p with
      | none =>
        rw [ho] at hat HT2
        simp only [Option.isNone_none, Bool.true_and] at hat
        have HA := Lib.hid hat
        clear hat ho
        go_wp2_with fail
        refine HT2.out.mono ?_
        rintro e w4 ⟨rfl, hb4⟩
        have HB4 := Lib.hid (HB.out.trans (hb4.mono HB.out.size))
        clear hb4
        unfold Zc
        have hb4 := HB4.out
        go_wp2_with fail
        go_roundw
        case rel => exact ⟨j + 1, by omega, by rw [HW.out], HA.out, (by (repeat (refine Below.setCell ?_ (by first | exact Nat.le_refl _ | (simp; done) | (simp; omega) | omega) _)); exact (by repeat (first | exact Below.refl _ _ | assumption | (refine Below.drew ?_) | (refine below_drewN' ?_ _) | (refine below_alloc' ?_ _))))⟩
        case measure => rw [intOf_of' HW.out, intOf_of' rfl]; omega
      | some x =>
        rw [ho] at hat HT2
        simp only [Option.isNone_some, Bool.false_and] at hat
        have HA := Lib.hid hat
        clear hat ho
        go_wp2_with fail
        refine HT2.out.mono ?_
        rintro e w4 ⟨⟨A5, n5, c5, rfl⟩, hb4⟩
        have HB4 := Lib.hid (HB.out.trans (hb4.mono HB.out.size))
        clear hb4
        unfold AgC
        have hb4 := HB4.out
        go_wp2_with fail
        go_ret
        exact ⟨by rw [← HA.out] <;> rfl, (by (repeat (refine Below.setCell ?_ (by first | exact Nat.le_refl _ | (simp; done) | (simp; omega) | omega) _)); exact (by repeat (first | exact Below.refl _ _ | assumption | (refine Below.drew ?_) | (refine below_drewN' ?_ _) | (refine below_alloc' ?_ _))))⟩
    · have HA := Lib.hid (show rapartL a l = true by rw [← hat, List.drop_of_length_le (by omega)]; rfl)
      clear hat
      go_wp2_with fail
      go_ret
      exact ⟨by rw [HA.out] <;> rfl, HB.out⟩
end Go.Proofs.Ytlmgabhdeeehmaa
