/-
  The walks of pantileref06.Place and Get.
-/
import Derived.Test.YtlmgabhdeeehmaaEnt
namespace Go.Proofs.Ytlmgabhdeeehmaa
open Go.RowKit
set_option linter.unusedVariables false

/-- the lists that are walked here -/
structure EtS (k : Nat) (l : List En) : Prop where
  et : Et k l
  k40 : k ≤ 40
  short : l.length ≤ 1000
structure PtS (k : Nat) (p : List Nat) : Prop where
  len : p.length = k
  ok : ∀ x ∈ p, x < 2 ^ 64

set_option maxRecDepth 100000 in
set_option maxHeartbeats 1000000 in
theorem rPlace_any (k : Nat) (l : List En) (p : List Nat) (v vp : Value) (w : World) (hv : RdE w v l) (hp : RdU w vp (pti p)) (hl : EtS k l) (hs : PtS k p) :
    Calls Try.prog 138 #[v, vp] w fun e w' => e = .returned (.tuple #[.int .i64 (Od.place En.key (pkey p) l).1, .bool (Od.place En.key (pkey p) l).2]) ∧ Below w.heap.size w w' := by
  obtain ⟨A, c, rfl, hcap, ga0⟩ := hv
  clear hcap
  have HD := Lib.hid (And.intro hl hs)
  have HG := Lib.hid ga0
  have HP := Lib.hid hp
  clear hl hs ga0 hp
  go_enter Try.func138, Try.ntmps138
  go_wp2_with fail
  go_loopw [6] (fun i wr => ∃ j : Nat, j ≤ l.length ∧ i = .int .i64 j ∧ (∀ q (hq : q < l.length), q < j → En.key l[q] < pkey p) ∧ Below w.heap.size w wr) (fun i _ => l.length - (intOf i).toNat)
  case atStart => exact ⟨0, Nat.zero_le _, rfl, fun q hq h => by omega, (by repeat (first | exact Below.refl _ _ | assumption | (refine Below.drew ?_) | (refine below_drewN' ?_ _) | (refine below_alloc' ?_ _)))⟩
  case round =>
    obtain ⟨j, hj, rfl, hall, hb⟩ := hrel
    have HB := Lib.hid hb
    have HA := Lib.hid hall
    clear hb hall
    by_cases hlt : j < l.length
    · have h3 : (j : Int) < l.length := by omega
      have h5 : (0 : Int) ≤ (j : Int) := by omega
      obtain ⟨b, o, rfl, ga⟩ := HG.out (by omega)
      obtain ⟨v0, c0, hv0, c1⟩ := (ga j hlt).keep (Below.keeps HB.out)
      clear ga c1
      have hblt : b < wr.heap.size := World.block_lt_of_cell? wr _ c0
      have HV := Lib.hid hv0
      have HW := Lib.hid (show wrap64 ((j : Int) + 1) = ((j + 1 : Nat) : Int) by have := HD.out.1.short; unfold wrap64; omega)
      have HC := Lib.hid (fun (w' : World) (h1 : RdU w' v0 (pti l[j].p)) (h2 : RdU w' vp (pti p)) => rCmp_any l[j].p p v0 vp w' h1 h2 (by rw [HD.out.1.et.len _ (List.getElem_mem hlt), HD.out.2.len]) (by rw [HD.out.1.et.len _ (List.getElem_mem hlt)]; exact HD.out.1.k40) (HD.out.1.et.ok _ (List.getElem_mem hlt)) HD.out.2.ok)
      obtain ⟨A0, cc, e0, _⟩ := RdU.point hv0
      subst e0
      clear hv0
      have h := HB.out
      by_cases hz : Zb.cmp l[j].p p < 0
      · have HN := Lib.hid (show ∀ q (hq : q < l.length), q < j + 1 → En.key l[q] < pkey p from fun q hq hqj => by
          by_cases e : q < j
          · exact HA.out q hq e
          · obtain rfl : q = j := by omega
            exact (cmp_neg _ _).1 hz)
        generalize Zb.cmp l[j].p p = z at *
        have hz' : ¬ z ≥ 0 := by omega
        clear hz
        go_wp2_with fail
        refine (HC.out _ (RdU.below HV.out (by repeat (first | exact Below.refl _ _ | assumption | (refine Below.drew ?_) | (refine below_drewN' ?_ _) | (refine below_alloc' ?_ _)))) (RdU.below HP.out (by repeat (first | exact Below.refl _ _ | assumption | (refine Below.drew ?_) | (refine below_drewN' ?_ _) | (refine below_alloc' ?_ _))))).mono ?_
        rintro e w' ⟨rfl, rfl⟩
        go_wp2_with fail
        go_roundw
        case rel => exact ⟨j + 1, by omega, by rw [HW.out], HN.out, (by repeat (first | exact Below.refl _ _ | assumption | (refine Below.drew ?_) | (refine below_drewN' ?_ _) | (refine below_alloc' ?_ _)))⟩
        case measure => rw [intOf_of' HW.out, intOf_of' rfl]; omega
      · have HN := Lib.hid (Od.place_at (key := En.key) (n := pkey p) j hlt (fun q hq h => HA.out q hq h) (fun h => hz ((cmp_neg _ _).2 h)))
        have HZ := Lib.hid (show (Zb.cmp l[j].p p == 0) = decide (En.key l[j] = pkey p) by
          apply bool_ext
          simp only [beq_iff_eq, decide_eq_true_eq]
          exact cmp_zero _ _)
        generalize Zb.cmp l[j].p p = z at *
        have hz' : z ≥ 0 := by omega
        clear hz
        go_wp2_with fail
        refine (HC.out _ (RdU.below HV.out (by repeat (first | exact Below.refl _ _ | assumption | (refine Below.drew ?_) | (refine below_drewN' ?_ _) | (refine below_alloc' ?_ _)))) (RdU.below HP.out (by repeat (first | exact Below.refl _ _ | assumption | (refine Below.drew ?_) | (refine below_drewN' ?_ _) | (refine below_alloc' ?_ _))))).mono ?_
        rintro e w' ⟨rfl, rfl⟩
        go_wp2_with fail
        go_ret2
        exact ⟨by rw [HN.out, ← HZ.out] <;> rfl, (by repeat (first | exact Below.refl _ _ | assumption | (refine Below.drew ?_) | (refine below_drewN' ?_ _) | (refine below_alloc' ?_ _)))⟩
    · have HN := Lib.hid (Od.place_end (key := En.key) (n := pkey p) (l := l) (fun q hq => HA.out q hq (by omega)))
      have h := HB.out
      go_wp2_with fail
      go_ret2
      exact ⟨by rw [HN.out] <;> rfl, (by repeat (first | exact Below.refl _ _ | assumption | (refine Below.drew ?_) | (refine below_drewN' ?_ _) | (refine below_alloc' ?_ _)))⟩

theorem rGet_any (k : Nat) (l : List En) (p : List Nat) (v vp : Value) (w : World) (hv : RdE w v l) (hp : RdU w vp (pti p)) (hl : EtS k l) (hs : PtS k p) :
    Calls Try.prog 171 #[v, vp] w fun e w' => e = .returned (.tuple #[.int .u64 ((getE l p).getD 0 : Nat), .bool (getE l p).isSome]) ∧ Below w.heap.size w w' := by
  have HL := Lib.hid (show getE l p = if (Od.place En.key (pkey p) l).2 then (l[(Od.place En.key (pkey p) l).1]?).map (·.v) else none by
    unfold getE; rw [Od.look_place hl.et.asc]; split <;> rfl)
  have HP := Lib.hid (rPlace_any k l p v vp w hv hp hl hs)
  obtain ⟨A, c, rfl, hcap, ga0⟩ := hv
  cases hb : (Od.place En.key (pkey p) l).2 with
  | false =>
    rw [hb] at HP HL
    generalize (Od.place En.key (pkey p) l).1 = i at *
    rw [show getE l p = none from HL.out]
    clear ga0 hcap hp hl hs hb HL
    go_enter Try.func171, Try.ntmps171
    go_wp2_with fail
    refine HP.out.mono ?_
    rintro e w' ⟨rfl, hb⟩
    go_wp2_with fail
    go_ret2
    exact ⟨rfl, hb⟩
  | true =>
    obtain ⟨hi, _⟩ := Od.place_lt hb
    rw [hb] at HP HL
    generalize (Od.place En.key (pkey p) l).1 = i at *
    have HE := Lib.hid (show getE l p = some l[i].v by rw [HL.out]; simp [hi])
    obtain ⟨b, o, rfl, ga⟩ := ga0 (by omega)
    have HC := Lib.hid (ga i hi)
    have h3 : (i : Int) < l.length := by omega
    have h5 : (0 : Int) ≤ (i : Int) := by omega
    rw [HE.out]
    clear ga0 ga hcap hp hl hs hb HL HE
    go_enter Try.func171, Try.ntmps171
    go_wp2_with fail
    refine HP.out.mono ?_
    rintro e w' ⟨rfl, hb⟩
    obtain ⟨v0, c0, hv0, c1⟩ := HC.out.keep (Below.keeps hb)
    clear c0 hv0
    go_wp2_with fail
    go_ret2
    exact ⟨rfl, hb⟩
end Go.Proofs.Ytlmgabhdeeehmaa
