/-
  The walk of pantileref19.Changes.
-/
import Derived.Test.YtlmgabhdeeehmaaPkW
namespace Go.Proofs.Ytlmgabhdeeehmaa
open Go.RowKit
set_option linter.unusedVariables false
set_option linter.unusedSimpArgs false

theorem PtAny.grown {W w w' : World} {u v : Value} {p bs : List Nat} (h : PtAny W w u p) (hown : OwnB W w v bs) (hg : w.grownBy w' v.ownBlock) : PtAny W w' u p :=
  h.keep fun b cur fr hbk => hg.block b (lt_of_block hbk) (by
    intro e
    obtain ⟨_, _, cur', fr', hc⟩ := hown.block b e.symm
    exact ne_type hbk hc (by decide) rfl)
theorem wpList_make_zeros {w : World} {ops : Array Oper} {rest : List Oper} {o : Oper} {a : Act} {Q : Exit → Act → World → Prop} (hg : o.guard = none) (l c : Operand) (hop : o.op = .makeSlice 22 l c) (n : Nat)
    (hl : a.eval l = .int .i64 ((n : Nat) : Int)) (hc : a.eval c = .int .i64 ((n : Nat) : Int)) (hn : n ≤ 1000)
    (hK : ∀ w', PtNew w' (.slice (some ⟨w.heap.size, 0, none⟩) n n) (Pk.zeros n) → Below w.heap.size w w' → wpList Try.prog ops Q rest (a.put o.dst (.slice (some ⟨w.heap.size, 0, none⟩) n n)) w') : wpList Try.prog ops Q (o :: rest) a w := by
  obtain ⟨i, hi, hz0, hz1, hz2⟩ := info_parts u64Info
  refine wpList_make_full w hg l c 22 hop w.heap.size 32 i _ 1 Try.underlying22 hi hz0 hz1 .i64 .i64 _ _ n hl hc rfl rfl (by rw [hz2]; omega) (by simp only [maxLen]; omega) (Nat.le_refl _) fun w' hown hgr => hK w' ?_ ((Below.refl _ _).grown hgr (Nat.le_refl _) (fun k h => by cases h))
  obtain ⟨h1, h2⟩ := hown
  rcases h2 with ⟨h2, _⟩ | ⟨g, cap, cur, e, q2, q3, q4, q5, q6, q7⟩
  · cases h2
  · injection e with e1 e2 e3
    injection e1 with e1
    injection e1 with e1
    subst e1 e3
    have hlen : (pti (Pk.zeros n)).length = n := by unfold pti Pk.zeros; simp
    refine ⟨⟨_, n, by rw [List.length_map, hlen], fun hp => ⟨_, 0, rfl, fun j hj => ?_⟩⟩, _, 0, n, cur, _, by unfold Pk.zeros; rw [List.length_replicate], q3⟩
    rw [List.length_map, hlen] at hj
    have h3 : (madeCells (Value.int IntKind.u64 0).cells (n * 1)).toList[j]? = some (.int .u64 0) := by
      show (madeCells #[.int .u64 0] (n * 1)).toList[j]? = _
      rw [toList_madeCells_one, List.getElem?_replicate]
      simp [hj]
    rw [← q7, List.getElem?_take_of_lt (by omega)] at h3
    unfold World.cell?
    simp only [q3, Nat.zero_add]
    rw [Array.getElem?_toList] at h3
    simp only [Option.isSome_none, Bool.false_eq_true, if_false]
    rw [h3]
    unfold pti Pk.zeros
    simp
/-- all values are uint64 -/
def OkV (l : List Ch) : Prop := ∀ c ∈ l, c.old < 2 ^ 64 ∧ c.new < 2 ^ 64

set_option maxRecDepth 100000 in
set_option maxHeartbeats 4000000 in
theorem rChangesB_any (k : Nat) (l : List Ch) (vl0 : Value) (w : World) (hl : RdC w vl0 l) (rt : Rt k l) (hk : 1 ≤ k ∧ k ≤ 16) (hn : l.length ≤ 60) (ov : OkV l) :
    Calls Try.prog 48 #[.int .i64 (k : Nat), vl0] w fun e w' => RetB w (Pk.bytes k l) e w' := by
  obtain ⟨A, c, rfl, ga0⟩ := hl
  have HD := Lib.hid (And.intro hk.2 (And.intro hn (And.intro rt ov)))
  have HG := Lib.hid ga0
  have hw1 : IntKind.u64.wrap (k : Int) = (k : Int) := by unfold IntKind.wrap; simp [IntKind.bits, IntKind.signed]; omega
  have hw2 : IntKind.u64.wrap (l.length : Int) = (l.length : Int) := by unfold IntKind.wrap; simp [IntKind.bits, IntKind.signed]; omega
  clear rt hk hn ov ga0
  go_enter Try.func48, Try.ntmps48
  go_wp2_with fail
  have HO := Lib.hid (OwnB.lit2 (W := w) (w := w) (Nat.le_refl _) rfl 80 68)
  have HB := Lib.hid (show Below w.heap.size w (w.alloc (.cells #[.int .u8 80, .int .u8 68] 5)) from (by repeat (first | exact Below.refl _ _ | assumption | (refine Below.drew ?_) | (refine below_drewN' ?_ _) | (refine below_alloc' ?_ _))))
  refine (rBytes_any k _ (by have := HD.out.1; omega)).mono ?_
  rintro e w1 ⟨v1, rfl, hr1, hb1⟩
  have HR := Lib.hid hr1
  have HO' := Lib.hid (HO.out.below hb1)
  have HB' := Lib.hid (HB.out.trans (hb1.mono HB.out.size))
  clear HO HB
  have HO := HO'
  have HB := HB'
  clear HO' HB'
  clear hr1 hb1
  go_wp2_with ((at_builtin; refine wpList_append_B rfl (.tmp 8) (.tmp 11) rfl w ([80, 68]) (Pk.leb k) ?_ ?_ ?_ ?_ ?_))
  · exact HO.out
  · exact HR.out
  · exact HB.out
  · have := Pk.leb_length k; simp; omega
  intro v2 w2 hown2 hb2 hg2
  clear HO HB HR
  have HO := Lib.hid (show OwnB w w2 v2 (([80, 68]) ++ (Pk.leb k)) by first | exact hown2 | simpa using hown2)
  have HB := Lib.hid hb2
  clear hown2 hb2 hg2
  go_wp2_with fail
  refine (rBytes_any l.length _ (by have := HD.out.2.1; omega)).mono ?_
  rintro e w3 ⟨v3, rfl, hr3, hb3⟩
  have HR := Lib.hid hr3
  have HO' := Lib.hid (HO.out.below hb3)
  have HB' := Lib.hid (HB.out.trans (hb3.mono HB.out.size))
  clear HO HB
  have HO := HO'
  have HB := HB'
  clear HO' HB'
  clear hr3 hb3
  go_wp2_with ((at_builtin; refine wpList_append_B rfl (.tmp 13) (.tmp 17) rfl w ([80, 68] ++ Pk.leb k) (Pk.leb l.length) ?_ ?_ ?_ ?_ ?_))
  · exact HO.out
  · exact HR.out
  · exact HB.out
  · have := Pk.leb_length k; have := Pk.leb_length l.length; simp; omega
  intro v4 w4 hown4 hb4 hg4
  clear HO HB HR
  have HO := Lib.hid (show OwnB w w4 v4 (([80, 68] ++ Pk.leb k) ++ (Pk.leb l.length)) by first | exact hown4 | simpa using hown4)
  have HB := Lib.hid hb4
  clear hown4 hb4 hg4
  go_wp2_with ((at_make; refine wpList_make_zeros rfl _ _ rfl k rfl rfl ?_ ?_))
  · have := HD.out.1; omega
  intro w5 hz5 hb5
  have HO' := Lib.hid (HO.out.below hb5)
  have HB' := Lib.hid (HB.out.trans (hb5.mono HB.out.size))
  have HZ := Lib.hid hz5
  clear HO HB hz5 hb5
  go_wp2_with fail
  go_loopw [5, 6, 7] (fun vo vl i wr => ∃ (j : Nat) (acc last : List Nat), j ≤ l.length ∧ i = .int .i64 j ∧ OwnB w wr vo acc ∧ PtAny w wr vl last ∧ acc ++ Pk.all last (l.drop j) = Pk.bytes k l ∧ last.length = k ∧ (∀ x ∈ last, x < 2 ^ 64) ∧ acc.length ≤ 22 + j * 200 ∧ Below w.heap.size w wr) (fun _ _ i _ => l.length - (intOf i).toNat)
  case atStart => exact ⟨0, _, Pk.zeros k, Nat.zero_le _, rfl, HO'.out, .inr HZ.out, by rw [List.drop_zero]; unfold Pk.bytes; simp, by unfold Pk.zeros; simp, fun x hx => by unfold Pk.zeros at hx; have := List.eq_of_mem_replicate hx; omega, by have := Pk.leb_length k; have := Pk.leb_length l.length; simp; omega, HB'.out⟩
  case round =>
    obtain ⟨j, acc, last, hj, rfl, hown, hpt, hacc, hll, hlo, hlen, hb⟩ := hrel
    have HO := Lib.hid hown
    have HB := Lib.hid hb
    have HL := Lib.hid hpt
    have HN := Lib.hid hlen
    clear hown hpt hb
    by_cases hlt : j < l.length
    · have h3 : (j : Int) < l.length := by omega
      have h5 : (0 : Int) ≤ (j : Int) := by omega
      obtain ⟨bk, ofs, rfl, ga⟩ := HG.out (by omega)
      obtain ⟨v0, kw0, hv0, kw1, kw2, kw3, kw4⟩ := ga j hlt
      have HPw := Lib.hid hv0
      obtain ⟨A0, cc, rfl, hx0⟩ := RdU.point hv0
      have hblt : bk < w.heap.size := World.block_lt_of_cell? w _ kw0
      have hmem := List.getElem_mem hlt
      have HX := Lib.hid (show l[j].p.length = k ∧ last.length = k ∧ (∀ x ∈ l[j].p, x < 2 ^ 64) ∧ (∀ x ∈ last, x < 2 ^ 64) ∧ l[j].old < 2 ^ 64 ∧ l[j].new < 2 ^ 64 from ⟨HD.out.2.2.1.len _ hmem, hll, HD.out.2.2.1.ok _ hmem, hlo, (HD.out.2.2.2 _ hmem).1, (HD.out.2.2.2 _ hmem).2⟩)
      have HRi := Lib.hid (right_parts (HD.out.2.2.1.right _ hmem)).1
      rw [List.drop_eq_getElem_cons hlt, show Pk.all last (l[j] :: l.drop (j + 1)) = Pk.one last l[j] ++ Pk.all l[j].p (l.drop (j + 1)) from rfl] at hacc
      have HA := Lib.hid hacc
      have HLen := Lib.hid (show acc.length ≤ 22 + j * 200 ∧ j ≤ 60 ∧ (Pk.lebP l[j].p last).length ≤ 160 ∧ (Pk.leb l[j].old).length ≤ 10 ∧ (Pk.leb l[j].new).length ≤ 10 by
        have := Pk.lebP_length l[j].p last
        have := Pk.leb_length l[j].old
        have := Pk.leb_length l[j].new
        have := HX.out.1
        have := HD.out.1
        have := HD.out.2.1
        have := HN.out
        omega)
      have HW := Lib.hid (show wrap64 ((j : Int) + 1) = ((j + 1 : Nat) : Int) by have := HD.out.2.1; unfold wrap64; omega)
      clear ga hv0 hx0 hmem hacc hll hlo
      cases hh1 : l[j].had <;> cases hh2 : l[j].has
      · have := HRi.out; rw [hh1, hh2] at this; simp at this
      · have HH := Lib.hid (And.intro hh1 hh2)
        rw [hh1] at kw1
        rw [hh2] at kw2
        have Kk0 := Lib.hid kw0
        have Kk1 := Lib.hid kw1
        have Kk2 := Lib.hid kw2
        have Kk3 := Lib.hid kw3
        have Kk4 := Lib.hid kw4
        have k0 := Below.keeps HB.out _ _ Kk0.out
        have k1 := Below.keeps HB.out _ _ Kk1.out
        have k2 := Below.keeps HB.out _ _ Kk2.out
        have k3 := Below.keeps HB.out _ _ Kk3.out
        have k4 := Below.keeps HB.out _ _ Kk4.out
        clear hh1 hh2 kw0 kw1 kw2 kw3 kw4
        go_wp2_with fail
        refine (rPoint_any l[j].p last _ u6 _ (HPw.out.below HB.out) (HL.out.rd HB.out) (by rw [HX.out.1, HX.out.2.1]) (by rw [HX.out.1]; have := HD.out.1; omega) HX.out.2.2.1 HX.out.2.2.2.1).mono ?_
        rintro e w1 ⟨v1, rfl, hr1, hb1⟩
        have HR := Lib.hid hr1
        have HO' := Lib.hid (HO.out.below hb1)
        have HB' := Lib.hid (HB.out.trans (hb1.mono HB.out.size))
        have HL' := Lib.hid (HL.out.keep fun b cur fr hbk => hb1.block b (lt_of_block hbk))
        clear HL
        have HL := HL'
        clear HL'
        clear HO HB
        have HO := HO'
        have HB := HB'
        clear HO' HB'
        replace k0 := Below.keeps HB.out _ _ Kk0.out
        replace k1 := Below.keeps HB.out _ _ Kk1.out
        replace k2 := Below.keeps HB.out _ _ Kk2.out
        replace k3 := Below.keeps HB.out _ _ Kk3.out
        replace k4 := Below.keeps HB.out _ _ Kk4.out
        clear hr1 hb1
        go_wp2_with ((at_builtin; refine wpList_append_B rfl (.tmp 27) (.tmp 34) rfl w (acc) (Pk.lebP l[j].p last) ?_ ?_ ?_ ?_ ?_))
        · exact HO.out
        · exact HR.out
        · exact HB.out
        · have := HLen.out; (try simp only [List.length_append, List.length_cons, List.length_nil]); omega
        intro v2 w2 hown2 hb2 hg2
        have HL' := Lib.hid (HL.out.grown HO.out hg2)
        clear HL
        have HL := HL'
        clear HL'
        clear HO HB HR
        have HO := Lib.hid (show OwnB w w2 v2 ((acc) ++ (Pk.lebP l[j].p last)) by first | exact hown2 | simpa using hown2)
        have HB := Lib.hid hb2
        replace k0 := Below.keeps HB.out _ _ Kk0.out
        replace k1 := Below.keeps HB.out _ _ Kk1.out
        replace k2 := Below.keeps HB.out _ _ Kk2.out
        replace k3 := Below.keeps HB.out _ _ Kk3.out
        replace k4 := Below.keeps HB.out _ _ Kk4.out
        clear hown2 hb2 hg2
        go_wp2_with ((at_builtin; refine wpList_append_B rfl (.tmp 47) (.tmp 48) rfl w (acc ++ Pk.lebP l[j].p last) ([2]) ?_ ?_ ?_ ?_ ?_))
        · exact HO.out.alloc _
        · exact RdB.one (Nat.le_refl _) (by simp [maxLen]) (by simp [go_sem])
        · have h := HB.out; exact (by repeat (first | exact Below.refl _ _ | assumption | (refine Below.drew ?_) | (refine below_drewN' ?_ _) | (refine below_alloc' ?_ _)))
        · have := HLen.out; (try simp only [List.length_append, List.length_cons, List.length_nil]); omega
        intro v3 w3 hown3 hb3 hg3
        have HL' := Lib.hid ((HL.out.keep fun b cur fr hbk => Below.heap_alloc _ _ _ (lt_of_block hbk)).grown (HO.out.alloc _) hg3)
        clear HL
        have HL := HL'
        clear HL'
        clear HO HB
        have HO := Lib.hid (show OwnB w w3 v3 ((acc ++ Pk.lebP l[j].p last) ++ ([2])) by first | exact hown3 | simpa using hown3)
        have HB := Lib.hid hb3
        replace k0 := Below.keeps HB.out _ _ Kk0.out
        replace k1 := Below.keeps HB.out _ _ Kk1.out
        replace k2 := Below.keeps HB.out _ _ Kk2.out
        replace k3 := Below.keeps HB.out _ _ Kk3.out
        replace k4 := Below.keeps HB.out _ _ Kk4.out
        clear hown3 hb3 hg3
        go_wp2_with fail
        refine (rBytes_any l[j].new _ HX.out.2.2.2.2.2).mono ?_
        rintro e w4 ⟨v4, rfl, hr4, hb4⟩
        have HR := Lib.hid hr4
        have HO' := Lib.hid (HO.out.below hb4)
        have HB' := Lib.hid (HB.out.trans (hb4.mono HB.out.size))
        have HL' := Lib.hid (HL.out.keep fun b cur fr hbk => hb4.block b (lt_of_block hbk))
        clear HL
        have HL := HL'
        clear HL'
        clear HO HB
        have HO := HO'
        have HB := HB'
        clear HO' HB'
        replace k0 := Below.keeps HB.out _ _ Kk0.out
        replace k1 := Below.keeps HB.out _ _ Kk1.out
        replace k2 := Below.keeps HB.out _ _ Kk2.out
        replace k3 := Below.keeps HB.out _ _ Kk3.out
        replace k4 := Below.keeps HB.out _ _ Kk4.out
        clear hr4 hb4
        go_wp2_with ((at_builtin; refine wpList_append_B rfl (.tmp 50) (.tmp 56) rfl w (acc ++ Pk.lebP l[j].p last ++ [2]) (Pk.leb l[j].new) ?_ ?_ ?_ ?_ ?_))
        · exact HO.out
        · exact HR.out
        · exact HB.out
        · have := HLen.out; (try simp only [List.length_append, List.length_cons, List.length_nil]); omega
        intro v5 w5 hown5 hb5 hg5
        have HL' := Lib.hid (HL.out.grown HO.out hg5)
        clear HL
        have HL := HL'
        clear HL'
        clear HO HB HR
        have HO := Lib.hid (show OwnB w w5 v5 ((acc ++ Pk.lebP l[j].p last ++ [2]) ++ (Pk.leb l[j].new)) by first | exact hown5 | simpa using hown5)
        have HB := Lib.hid hb5
        replace k0 := Below.keeps HB.out _ _ Kk0.out
        replace k1 := Below.keeps HB.out _ _ Kk1.out
        replace k2 := Below.keeps HB.out _ _ Kk2.out
        replace k3 := Below.keeps HB.out _ _ Kk3.out
        replace k4 := Below.keeps HB.out _ _ Kk4.out
        clear hown5 hb5 hg5
        go_wp2_with fail
        go_roundw
        case rel => exact ⟨j + 1, acc ++ Pk.lebP l[j].p last ++ [2] ++ Pk.leb l[j].new, l[j].p, by omega, by rw [HW.out], HO.out, .inl HPw.out, by rw [← HA.out]; simp [Pk.one, Pk.flag, Pk.vals, HH.out.1, HH.out.2], HX.out.1, HX.out.2.2.1, by have := HLen.out; simp only [List.length_append, List.length_cons, List.length_nil]; omega, HB.out⟩
        case measure => rw [intOf_of' HW.out, intOf_of' rfl]; omega
      · have HH := Lib.hid (And.intro hh1 hh2)
        rw [hh1] at kw1
        rw [hh2] at kw2
        have Kk0 := Lib.hid kw0
        have Kk1 := Lib.hid kw1
        have Kk2 := Lib.hid kw2
        have Kk3 := Lib.hid kw3
        have Kk4 := Lib.hid kw4
        have k0 := Below.keeps HB.out _ _ Kk0.out
        have k1 := Below.keeps HB.out _ _ Kk1.out
        have k2 := Below.keeps HB.out _ _ Kk2.out
        have k3 := Below.keeps HB.out _ _ Kk3.out
        have k4 := Below.keeps HB.out _ _ Kk4.out
        clear hh1 hh2 kw0 kw1 kw2 kw3 kw4
        go_wp2_with fail
        refine (rPoint_any l[j].p last _ u6 _ (HPw.out.below HB.out) (HL.out.rd HB.out) (by rw [HX.out.1, HX.out.2.1]) (by rw [HX.out.1]; have := HD.out.1; omega) HX.out.2.2.1 HX.out.2.2.2.1).mono ?_
        rintro e w1 ⟨v1, rfl, hr1, hb1⟩
        have HR := Lib.hid hr1
        have HO' := Lib.hid (HO.out.below hb1)
        have HB' := Lib.hid (HB.out.trans (hb1.mono HB.out.size))
        have HL' := Lib.hid (HL.out.keep fun b cur fr hbk => hb1.block b (lt_of_block hbk))
        clear HL
        have HL := HL'
        clear HL'
        clear HO HB
        have HO := HO'
        have HB := HB'
        clear HO' HB'
        replace k0 := Below.keeps HB.out _ _ Kk0.out
        replace k1 := Below.keeps HB.out _ _ Kk1.out
        replace k2 := Below.keeps HB.out _ _ Kk2.out
        replace k3 := Below.keeps HB.out _ _ Kk3.out
        replace k4 := Below.keeps HB.out _ _ Kk4.out
        clear hr1 hb1
        go_wp2_with ((at_builtin; refine wpList_append_B rfl (.tmp 27) (.tmp 34) rfl w (acc) (Pk.lebP l[j].p last) ?_ ?_ ?_ ?_ ?_))
        · exact HO.out
        · exact HR.out
        · exact HB.out
        · have := HLen.out; (try simp only [List.length_append, List.length_cons, List.length_nil]); omega
        intro v2 w2 hown2 hb2 hg2
        have HL' := Lib.hid (HL.out.grown HO.out hg2)
        clear HL
        have HL := HL'
        clear HL'
        clear HO HB HR
        have HO := Lib.hid (show OwnB w w2 v2 ((acc) ++ (Pk.lebP l[j].p last)) by first | exact hown2 | simpa using hown2)
        have HB := Lib.hid hb2
        replace k0 := Below.keeps HB.out _ _ Kk0.out
        replace k1 := Below.keeps HB.out _ _ Kk1.out
        replace k2 := Below.keeps HB.out _ _ Kk2.out
        replace k3 := Below.keeps HB.out _ _ Kk3.out
        replace k4 := Below.keeps HB.out _ _ Kk4.out
        clear hown2 hb2 hg2
        go_wp2_with ((at_builtin; refine wpList_append_B rfl (.tmp 64) (.tmp 65) rfl w (acc ++ Pk.lebP l[j].p last) ([1]) ?_ ?_ ?_ ?_ ?_))
        · exact HO.out.alloc _
        · exact RdB.one (Nat.le_refl _) (by simp [maxLen]) (by simp [go_sem])
        · have h := HB.out; exact (by repeat (first | exact Below.refl _ _ | assumption | (refine Below.drew ?_) | (refine below_drewN' ?_ _) | (refine below_alloc' ?_ _)))
        · have := HLen.out; (try simp only [List.length_append, List.length_cons, List.length_nil]); omega
        intro v3 w3 hown3 hb3 hg3
        have HL' := Lib.hid ((HL.out.keep fun b cur fr hbk => Below.heap_alloc _ _ _ (lt_of_block hbk)).grown (HO.out.alloc _) hg3)
        clear HL
        have HL := HL'
        clear HL'
        clear HO HB
        have HO := Lib.hid (show OwnB w w3 v3 ((acc ++ Pk.lebP l[j].p last) ++ ([1])) by first | exact hown3 | simpa using hown3)
        have HB := Lib.hid hb3
        replace k0 := Below.keeps HB.out _ _ Kk0.out
        replace k1 := Below.keeps HB.out _ _ Kk1.out
        replace k2 := Below.keeps HB.out _ _ Kk2.out
        replace k3 := Below.keeps HB.out _ _ Kk3.out
        replace k4 := Below.keeps HB.out _ _ Kk4.out
        clear hown3 hb3 hg3
        go_wp2_with fail
        refine (rBytes_any l[j].old _ HX.out.2.2.2.2.1).mono ?_
        rintro e w4 ⟨v4, rfl, hr4, hb4⟩
        have HR := Lib.hid hr4
        have HO' := Lib.hid (HO.out.below hb4)
        have HB' := Lib.hid (HB.out.trans (hb4.mono HB.out.size))
        have HL' := Lib.hid (HL.out.keep fun b cur fr hbk => hb4.block b (lt_of_block hbk))
        clear HL
        have HL := HL'
        clear HL'
        clear HO HB
        have HO := HO'
        have HB := HB'
        clear HO' HB'
        replace k0 := Below.keeps HB.out _ _ Kk0.out
        replace k1 := Below.keeps HB.out _ _ Kk1.out
        replace k2 := Below.keeps HB.out _ _ Kk2.out
        replace k3 := Below.keeps HB.out _ _ Kk3.out
        replace k4 := Below.keeps HB.out _ _ Kk4.out
        clear hr4 hb4
        go_wp2_with ((at_builtin; refine wpList_append_B rfl (.tmp 67) (.tmp 73) rfl w (acc ++ Pk.lebP l[j].p last ++ [1]) (Pk.leb l[j].old) ?_ ?_ ?_ ?_ ?_))
        · exact HO.out
        · exact HR.out
        · exact HB.out
        · have := HLen.out; (try simp only [List.length_append, List.length_cons, List.length_nil]); omega
        intro v5 w5 hown5 hb5 hg5
        have HL' := Lib.hid (HL.out.grown HO.out hg5)
        clear HL
        have HL := HL'
        clear HL'
        clear HO HB HR
        have HO := Lib.hid (show OwnB w w5 v5 ((acc ++ Pk.lebP l[j].p last ++ [1]) ++ (Pk.leb l[j].old)) by first | exact hown5 | simpa using hown5)
        have HB := Lib.hid hb5
        replace k0 := Below.keeps HB.out _ _ Kk0.out
        replace k1 := Below.keeps HB.out _ _ Kk1.out
        replace k2 := Below.keeps HB.out _ _ Kk2.out
        replace k3 := Below.keeps HB.out _ _ Kk3.out
        replace k4 := Below.keeps HB.out _ _ Kk4.out
        clear hown5 hb5 hg5
        go_wp2_with fail
        go_roundw
        case rel => exact ⟨j + 1, acc ++ Pk.lebP l[j].p last ++ [1] ++ Pk.leb l[j].old, l[j].p, by omega, by rw [HW.out], HO.out, .inl HPw.out, by rw [← HA.out]; simp [Pk.one, Pk.flag, Pk.vals, HH.out.1, HH.out.2], HX.out.1, HX.out.2.2.1, by have := HLen.out; simp only [List.length_append, List.length_cons, List.length_nil]; omega, HB.out⟩
        case measure => rw [intOf_of' HW.out, intOf_of' rfl]; omega
      · have HH := Lib.hid (And.intro hh1 hh2)
        rw [hh1] at kw1
        rw [hh2] at kw2
        have Kk0 := Lib.hid kw0
        have Kk1 := Lib.hid kw1
        have Kk2 := Lib.hid kw2
        have Kk3 := Lib.hid kw3
        have Kk4 := Lib.hid kw4
        have k0 := Below.keeps HB.out _ _ Kk0.out
        have k1 := Below.keeps HB.out _ _ Kk1.out
        have k2 := Below.keeps HB.out _ _ Kk2.out
        have k3 := Below.keeps HB.out _ _ Kk3.out
        have k4 := Below.keeps HB.out _ _ Kk4.out
        clear hh1 hh2 kw0 kw1 kw2 kw3 kw4
        go_wp2_with fail
        refine (rPoint_any l[j].p last _ u6 _ (HPw.out.below HB.out) (HL.out.rd HB.out) (by rw [HX.out.1, HX.out.2.1]) (by rw [HX.out.1]; have := HD.out.1; omega) HX.out.2.2.1 HX.out.2.2.2.1).mono ?_
        rintro e w1 ⟨v1, rfl, hr1, hb1⟩
        have HR := Lib.hid hr1
        have HO' := Lib.hid (HO.out.below hb1)
        have HB' := Lib.hid (HB.out.trans (hb1.mono HB.out.size))
        have HL' := Lib.hid (HL.out.keep fun b cur fr hbk => hb1.block b (lt_of_block hbk))
        clear HL
        have HL := HL'
        clear HL'
        clear HO HB
        have HO := HO'
        have HB := HB'
        clear HO' HB'
        replace k0 := Below.keeps HB.out _ _ Kk0.out
        replace k1 := Below.keeps HB.out _ _ Kk1.out
        replace k2 := Below.keeps HB.out _ _ Kk2.out
        replace k3 := Below.keeps HB.out _ _ Kk3.out
        replace k4 := Below.keeps HB.out _ _ Kk4.out
        clear hr1 hb1
        go_wp2_with ((at_builtin; refine wpList_append_B rfl (.tmp 27) (.tmp 34) rfl w (acc) (Pk.lebP l[j].p last) ?_ ?_ ?_ ?_ ?_))
        · exact HO.out
        · exact HR.out
        · exact HB.out
        · have := HLen.out; (try simp only [List.length_append, List.length_cons, List.length_nil]); omega
        intro v2 w2 hown2 hb2 hg2
        have HL' := Lib.hid (HL.out.grown HO.out hg2)
        clear HL
        have HL := HL'
        clear HL'
        clear HO HB HR
        have HO := Lib.hid (show OwnB w w2 v2 ((acc) ++ (Pk.lebP l[j].p last)) by first | exact hown2 | simpa using hown2)
        have HB := Lib.hid hb2
        replace k0 := Below.keeps HB.out _ _ Kk0.out
        replace k1 := Below.keeps HB.out _ _ Kk1.out
        replace k2 := Below.keeps HB.out _ _ Kk2.out
        replace k3 := Below.keeps HB.out _ _ Kk3.out
        replace k4 := Below.keeps HB.out _ _ Kk4.out
        clear hown2 hb2 hg2
        go_wp2_with ((at_builtin; refine wpList_append_B rfl (.tmp 75) (.tmp 76) rfl w (acc ++ Pk.lebP l[j].p last) ([3]) ?_ ?_ ?_ ?_ ?_))
        · exact HO.out.alloc _
        · exact RdB.one (Nat.le_refl _) (by simp [maxLen]) (by simp [go_sem])
        · have h := HB.out; exact (by repeat (first | exact Below.refl _ _ | assumption | (refine Below.drew ?_) | (refine below_drewN' ?_ _) | (refine below_alloc' ?_ _)))
        · have := HLen.out; (try simp only [List.length_append, List.length_cons, List.length_nil]); omega
        intro v3 w3 hown3 hb3 hg3
        have HL' := Lib.hid ((HL.out.keep fun b cur fr hbk => Below.heap_alloc _ _ _ (lt_of_block hbk)).grown (HO.out.alloc _) hg3)
        clear HL
        have HL := HL'
        clear HL'
        clear HO HB
        have HO := Lib.hid (show OwnB w w3 v3 ((acc ++ Pk.lebP l[j].p last) ++ ([3])) by first | exact hown3 | simpa using hown3)
        have HB := Lib.hid hb3
        replace k0 := Below.keeps HB.out _ _ Kk0.out
        replace k1 := Below.keeps HB.out _ _ Kk1.out
        replace k2 := Below.keeps HB.out _ _ Kk2.out
        replace k3 := Below.keeps HB.out _ _ Kk3.out
        replace k4 := Below.keeps HB.out _ _ Kk4.out
        clear hown3 hb3 hg3
        go_wp2_with fail
        refine (rBytes_any l[j].old _ HX.out.2.2.2.2.1).mono ?_
        rintro e w4 ⟨v4, rfl, hr4, hb4⟩
        have HR := Lib.hid hr4
        have HO' := Lib.hid (HO.out.below hb4)
        have HB' := Lib.hid (HB.out.trans (hb4.mono HB.out.size))
        have HL' := Lib.hid (HL.out.keep fun b cur fr hbk => hb4.block b (lt_of_block hbk))
        clear HL
        have HL := HL'
        clear HL'
        clear HO HB
        have HO := HO'
        have HB := HB'
        clear HO' HB'
        replace k0 := Below.keeps HB.out _ _ Kk0.out
        replace k1 := Below.keeps HB.out _ _ Kk1.out
        replace k2 := Below.keeps HB.out _ _ Kk2.out
        replace k3 := Below.keeps HB.out _ _ Kk3.out
        replace k4 := Below.keeps HB.out _ _ Kk4.out
        clear hr4 hb4
        go_wp2_with ((at_builtin; refine wpList_append_B rfl (.tmp 78) (.tmp 84) rfl w (acc ++ Pk.lebP l[j].p last ++ [3]) (Pk.leb l[j].old) ?_ ?_ ?_ ?_ ?_))
        · exact HO.out
        · exact HR.out
        · exact HB.out
        · have := HLen.out; (try simp only [List.length_append, List.length_cons, List.length_nil]); omega
        intro v5 w5 hown5 hb5 hg5
        have HL' := Lib.hid (HL.out.grown HO.out hg5)
        clear HL
        have HL := HL'
        clear HL'
        clear HO HB HR
        have HO := Lib.hid (show OwnB w w5 v5 ((acc ++ Pk.lebP l[j].p last ++ [3]) ++ (Pk.leb l[j].old)) by first | exact hown5 | simpa using hown5)
        have HB := Lib.hid hb5
        replace k0 := Below.keeps HB.out _ _ Kk0.out
        replace k1 := Below.keeps HB.out _ _ Kk1.out
        replace k2 := Below.keeps HB.out _ _ Kk2.out
        replace k3 := Below.keeps HB.out _ _ Kk3.out
        replace k4 := Below.keeps HB.out _ _ Kk4.out
        clear hown5 hb5 hg5
        go_wp2_with fail
        refine (rBytes_any l[j].new _ HX.out.2.2.2.2.2).mono ?_
        rintro e w6 ⟨v6, rfl, hr6, hb6⟩
        have HR := Lib.hid hr6
        have HO' := Lib.hid (HO.out.below hb6)
        have HB' := Lib.hid (HB.out.trans (hb6.mono HB.out.size))
        have HL' := Lib.hid (HL.out.keep fun b cur fr hbk => hb6.block b (lt_of_block hbk))
        clear HL
        have HL := HL'
        clear HL'
        clear HO HB
        have HO := HO'
        have HB := HB'
        clear HO' HB'
        replace k0 := Below.keeps HB.out _ _ Kk0.out
        replace k1 := Below.keeps HB.out _ _ Kk1.out
        replace k2 := Below.keeps HB.out _ _ Kk2.out
        replace k3 := Below.keeps HB.out _ _ Kk3.out
        replace k4 := Below.keeps HB.out _ _ Kk4.out
        clear hr6 hb6
        go_wp2_with ((at_builtin; refine wpList_append_B rfl (.tmp 86) (.tmp 92) rfl w (acc ++ Pk.lebP l[j].p last ++ [3] ++ Pk.leb l[j].old) (Pk.leb l[j].new) ?_ ?_ ?_ ?_ ?_))
        · exact HO.out
        · exact HR.out
        · exact HB.out
        · have := HLen.out; (try simp only [List.length_append, List.length_cons, List.length_nil]); omega
        intro v7 w7 hown7 hb7 hg7
        have HL' := Lib.hid (HL.out.grown HO.out hg7)
        clear HL
        have HL := HL'
        clear HL'
        clear HO HB HR
        have HO := Lib.hid (show OwnB w w7 v7 ((acc ++ Pk.lebP l[j].p last ++ [3] ++ Pk.leb l[j].old) ++ (Pk.leb l[j].new)) by first | exact hown7 | simpa using hown7)
        have HB := Lib.hid hb7
        replace k0 := Below.keeps HB.out _ _ Kk0.out
        replace k1 := Below.keeps HB.out _ _ Kk1.out
        replace k2 := Below.keeps HB.out _ _ Kk2.out
        replace k3 := Below.keeps HB.out _ _ Kk3.out
        replace k4 := Below.keeps HB.out _ _ Kk4.out
        clear hown7 hb7 hg7
        go_wp2_with fail
        go_roundw
        case rel => exact ⟨j + 1, acc ++ Pk.lebP l[j].p last ++ [3] ++ Pk.leb l[j].old ++ Pk.leb l[j].new, l[j].p, by omega, by rw [HW.out], HO.out, .inl HPw.out, by rw [← HA.out]; simp [Pk.one, Pk.flag, Pk.vals, HH.out.1, HH.out.2], HX.out.1, HX.out.2.2.1, by have := HLen.out; simp only [List.length_append, List.length_cons, List.length_nil]; omega, HB.out⟩
        case measure => rw [intOf_of' HW.out, intOf_of' rfl]; omega
    · have HE := Lib.hid (show acc = Pk.bytes k l by rw [← hacc, List.drop_of_length_le (by omega)]; simp [Pk.all])
      clear hacc
      go_wp2_with fail
      go_ret
      rw [← HE.out]
      exact RetB.mk HO.out.rd HB.out
end Go.Proofs.Ytlmgabhdeeehmaa
