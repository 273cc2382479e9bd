/-
  The walk of pack.Changes.
-/
import Derived.Test.YtlmgabhdeeehmaaPkW2
import Derived.Test.YtlmgabhdeeehmaaRegion2
namespace Go.Proofs.Ytlmgabhdeeehmaa
open Go.RowKit
set_option linter.unusedVariables false
set_option linter.unusedSimpArgs false

theorem cells_of_five {w : World} {b : Nat} {v0 v1 v2 v3 v4 : Value} {t : TypeId} (h : w.heap[b]? = some (.cells #[v0, v1, v2, v3, v4] t (0, 0))) :
    w.cell? ⟨b, 0, none⟩ = some v0 ∧ w.cell? ⟨b, 1, none⟩ = some v1 ∧ w.cell? ⟨b, 2, none⟩ = some v2 ∧ w.cell? ⟨b, 3, none⟩ = some v3 ∧ w.cell? ⟨b, 4, none⟩ = some v4 :=
  ⟨by simp [World.cell?, h], by simp [World.cell?, h], by simp [World.cell?, h], by simp [World.cell?, h], by simp [World.cell?, h]⟩
/-- what Changes hands back -/
def PackP (W : World) (r : Bool) (bs : List Nat) (e : Ending) (w' : World) : Prop :=
  (match r with
  | false => e = .returned (.tuple #[.slice none 0 0, .int .i64 9])
  | true => ∃ A c, e = .returned (.tuple #[.slice A bs.length c, .int .i64 0]) ∧ RdB w' (.slice A bs.length c) bs) ∧ Below W.heap.size W w'
/-- one change in the writer -/
theorem flag_val (c : Ch) : Pk.flag c = (if c.had then 1 else 0) + (if c.has then 2 else 0) := rfl

set_option maxRecDepth 100000 in
set_option maxHeartbeats 4000000 in
theorem wChanges_any (k : Int) (l : List Ch) (vl : Value) (w : World) (hl : RdC w vl l) (hn : l.length ≤ 60) (hok : OkC l) (ov : OkV l) :
    Calls Try.prog 46 #[.int .i64 k, vl] w fun e w' => PackP w (rightL k l) (Pk.bytes k.toNat l) e w' := by
  have H1 := Lib.hid (eRight_any k l vl w hl (by omega) hok)
  cases hr : rightL k l with
  | false =>
    rw [hr] at H1
    clear hr hl hn hok ov
    go_enter Try.func46, Try.ntmps46
    go_wp2_with fail
    refine H1.out.mono ?_
    rintro e w1 ⟨rfl, hb1⟩
    go_wp2_with fail
    go_ret2
    exact ⟨rfl, hb1⟩
  | true =>
    rw [hr] at H1
    obtain ⟨n, rfl, n1, n16, rt⟩ := rightL_rt hok hr
    have hkn : ((n : Nat) : Int).toNat = n := by omega
    rw [hkn]
    have HD := Lib.hid (And.intro n16 (And.intro hn (And.intro rt ov)))
    have HB0 := Lib.hid (show ∀ w' : World, Calls Try.prog 93 #[.string ⟨#[80, 68]⟩, .int .i64 (n : Nat), .int .i64 (l.length : Nat)] w' fun e w'' => BegP w' (hd 80 68 n l.length) (Pk.zeros n) e w'' from fun w' => begin_any 80 68 n l.length w' n16 (by omega))
    have HRl := Lib.hid hl
    obtain ⟨A, c, rfl, ga0⟩ := hl
    have HG := Lib.hid ga0
    clear hr hkn n1 n16 rt hn hok ov ga0
    go_enter Try.func46, Try.ntmps46
    go_wp2_with fail
    refine H1.out.mono ?_
    rintro e wA ⟨rfl, hb1⟩
    have HB1 := Lib.hid hb1
    clear hb1
    go_wp2_with fail
    refine (HB0.out _).mono ?_
    rintro e wB ⟨G, rfl, hI2⟩
    have HI2 := Lib.hid hI2
    clear hI2
    go_wp2_with fail
    go_loopw [19] (fun i wr => ∃ (j : Nat) (acc last : List Nat), j ≤ l.length ∧ i = .int .i64 j ∧ InvW wA G acc last wr ∧ acc ++ Pk.all last (l.drop j) = Pk.bytes n l ∧ last.length = n ∧ (∀ x ∈ last, x < 2 ^ 64) ∧ acc.length ≤ 22 + j * 200) (fun i _ => l.length - (intOf i).toNat)
    case atStart => exact ⟨0, _, Pk.zeros n, Nat.zero_le _, rfl, HI2.out, by rw [List.drop_zero]; unfold Pk.bytes hd; simp, by unfold Pk.zeros; simp, fun x hx => by unfold Pk.zeros at hx; have := List.eq_of_mem_replicate hx; omega, by have := Pk.leb_length n; have := Pk.leb_length l.length; unfold hd; simp; omega⟩
    case round =>
      obtain ⟨j, acc, last, hj, rfl, hI, hacc, hll, hlo, hlen⟩ := hrel
      have HI := Lib.hid hI
      have HBw := Lib.hid (HB1.out.trans (hI.bel.mono HB1.out.size))
      by_cases hlt : j < l.length
      · have h3 : (j : Int) < l.length := by omega
        have h5 : (0 : Int) ≤ (j : Int) := by omega
        obtain ⟨bk, ofs, rfl, ga⟩ := HG.out (by omega)
        obtain ⟨v0, kw0, hv0, kw1, kw2, kw3, kw4⟩ := ga j hlt
        have HPw := Lib.hid (hv0.below HB1.out)
        obtain ⟨A0, cc, rfl, hx0⟩ := RdU.point hv0
        have k0 := Below.keeps HBw.out _ _ kw0
        have k1 := Below.keeps HBw.out _ _ kw1
        have k2 := Below.keeps HBw.out _ _ kw2
        have k3 := Below.keeps HBw.out _ _ kw3
        have k4 := Below.keeps HBw.out _ _ kw4
        have hblt : bk < wr.heap.size := World.block_lt_of_cell? wr _ k0
        have hmem := List.getElem_mem hlt
        have HX := Lib.hid (show l[j].p.length = n ∧ last.length = n ∧ (∀ x ∈ l[j].p, x < 2 ^ 64) ∧ (∀ x ∈ last, x < 2 ^ 64) ∧ l[j].old < 2 ^ 64 ∧ l[j].new < 2 ^ 64 from ⟨HD.out.2.2.1.len _ hmem, hll, HD.out.2.2.1.ok _ hmem, hlo, (HD.out.2.2.2 _ hmem).1, (HD.out.2.2.2 _ hmem).2⟩)
        rw [List.drop_eq_getElem_cons hlt, show Pk.all last (l[j] :: l.drop (j + 1)) = Pk.one last l[j] ++ Pk.all l[j].p (l.drop (j + 1)) from rfl] at hacc
        have HA := Lib.hid hacc
        have HLen := Lib.hid (show acc.length ≤ 22 + j * 200 ∧ j ≤ 60 ∧ (Pk.lebP l[j].p last).length ≤ 160 ∧ (Pk.leb l[j].old).length ≤ 10 ∧ (Pk.leb l[j].new).length ≤ 10 by
          have := Pk.lebP_length l[j].p last
          have := Pk.leb_length l[j].old
          have := Pk.leb_length l[j].new
          have := HX.out.1
          have := HD.out.1
          have := HD.out.2.1
          omega)
        have HW := Lib.hid (show wrap64 ((j : Int) + 1) = ((j + 1 : Nat) : Int) by have := HD.out.2.1; unfold wrap64; omega)
        have HF := Lib.hid (show ∀ w' : World, Calls Try.prog 95 #[.agg #[.slice A0 l[j].p.length cc, .bool l[j].had, .bool l[j].has, .int .u64 (l[j].old : Nat), .int .u64 (l[j].new : Nat)]] w' fun e w'' => e = .returned (.int .u8 ((Pk.flag l[j] : Nat) : Int)) ∧ Below w'.heap.size w' w'' from fun w' => flags_any _ l[j] w')
        clear ga hv0 hx0 hmem hacc hll hlo kw0 kw1 kw2 kw3 kw4 hlen hI
        go_wp2_with fail
        refine (wPoint_any wA _ G l[j].p last acc _ (HI.out.below (below_alloc' (Below.refl _ _) _)) HPw.out (by rw [HX.out.1, HX.out.2.1]) (by rw [HX.out.1]; have := HD.out.1; omega) HX.out.2.2.1 HX.out.2.2.2.1 (by have := HLen.out; omega)).mono ?_
        rintro e wC ⟨rfl, hI3, hk3⟩
        obtain ⟨C, hC⟩ : ∃ C, wr.heap.size = C := ⟨_, rfl⟩
        have hGw := HI.out.lt
        have hbox := hk3 wr.heap.size _ _ _ (heap_alloc_new wr (.cells #[.slice A0 l[j].p.length cc, .bool l[j].had, .bool l[j].has, .int .u64 (l[j].old : Nat), .int .u64 (l[j].new : Nat)] 114)) (by decide) (by omega)
        rw [hC] at hbox hGw ⊢
        have hlC : C < wC.heap.size := lt_of_block hbox
        have hlG : G < wC.heap.size := hI3.lt
        have hGC : ¬ C = G := by omega
        have hGC2 : ¬ G = C := by omega
        have HBox := Lib.hid hbox
        obtain ⟨x0, x1, x2, x3, x4⟩ := cells_of_five hbox
        have HI3 := Lib.hid hI3
        obtain ⟨vb, vl, hblk, hown, hpt, hb, hG⟩ := hI3
        obtain ⟨q0, q1, qf⟩ := cells_of_two hblk
        have HIp := Lib.hid (And.intro hblk (And.intro hown (And.intro hpt (And.intro hb hG))))
        clear hk3 hbox hblk hown hpt hb hG k0 k1 k2 k3 k4 hblt hC
        go_wp2_with fail
        refine wp_region_late 8 (fun q => decide (q = 0) || decide (q = 9) || decide (q = 10)) (fun w w' => World.grownBy w w' vb.ownBlock) 11 [fun v _ => v = .pointer (some ⟨G, 0, none⟩),
          fun v _ => v = .pointer (some ⟨G, 0, none⟩),
          fun v _ => v = .pointer (some ⟨G, 0, none⟩),
          fun v _ => v = .pointer (some ⟨G, 0, none⟩),
          fun v _ => v = vb,
          fun v _ => v = .agg #[.slice A0 l[j].p.length cc, .bool l[j].had, .bool l[j].has, .int .u64 (l[j].old : Nat), .int .u64 (l[j].new : Nat)],
          fun v9 w9 => v9 = .int .u8 ((Pk.flag l[j] : Nat) : Int),
          fun v9 w9 => ∃ g, v9 = .slice (some ⟨g, 0, none⟩) 1 1 ∧ w9.cell? ⟨g, 0, none⟩ = some (.int .u8 ((Pk.flag l[j] : Nat) : Int)) ∧ some g ≠ vb.ownBlock,
          fun v9 w9 => ∃ wa, Below wC.heap.size wC wa ∧ World.grownBy wa w9 vb.ownBlock ∧ OwnB wA w9 v9 ((acc ++ Pk.lebP l[j].p last) ++ [Pk.flag l[j]]),
          fun v _ => v = .pointer (some ⟨G, 0, none⟩),
          fun v _ => v = .pointer (some ⟨G, 0, none⟩)]
          (by kernel_rfl) (by kernel_rfl) (by kernel_rfl) (by kernel_rfl) ?_ ?_ (by kernel_rfl) rfl ?_ ?_
        · intro i V hne hi v w1 w2 h hb
          match i, hne, hi with
          | 0, _, hi => obtain rfl := Option.some.inj hi; exact h
          | 1, _, hi => obtain rfl := Option.some.inj hi; exact h
          | 2, _, hi => obtain rfl := Option.some.inj hi; exact h
          | 3, _, hi => obtain rfl := Option.some.inj hi; exact h
          | 4, _, hi => obtain rfl := Option.some.inj hi; exact h
          | 5, _, hi => obtain rfl := Option.some.inj hi; exact h
          | 6, _, hi =>
          obtain rfl := Option.some.inj hi
          first | exact h | (obtain ⟨g, h1, h2, h3⟩ := h; exact ⟨g, h1, Below.keeps hb _ _ h2, h3⟩)
          | 7, _, hi =>
          obtain rfl := Option.some.inj hi
          first | exact h | (obtain ⟨g, h1, h2, h3⟩ := h; exact ⟨g, h1, Below.keeps hb _ _ h2, h3⟩)
          | 8, hne, _ => exact absurd rfl hne
          | 9, _, hi => obtain rfl := Option.some.inj hi; exact h
          | 10, _, hi => obtain rfl := Option.some.inj hi; exact h
          | k + 11, _, hi => simp at hi
        · intro i V hne hi v w1 w2 h hb
          match i, hne, hi with
          | 0, _, hi => obtain rfl := Option.some.inj hi; exact h
          | 1, _, hi => obtain rfl := Option.some.inj hi; exact h
          | 2, _, hi => obtain rfl := Option.some.inj hi; exact h
          | 3, _, hi => obtain rfl := Option.some.inj hi; exact h
          | 4, _, hi => obtain rfl := Option.some.inj hi; exact h
          | 5, _, hi => obtain rfl := Option.some.inj hi; exact h
          | 6, _, hi =>
          obtain rfl := Option.some.inj hi
          first | exact h | (obtain ⟨g, h1, h2, h3⟩ := h; exact ⟨g, h1, hb.cell h2 h3, h3⟩)
          | 7, _, hi =>
          obtain rfl := Option.some.inj hi
          first | exact h | (obtain ⟨g, h1, h2, h3⟩ := h; exact ⟨g, h1, hb.cell h2 h3, h3⟩)
          | 8, hne, _ => exact absurd rfl hne
          | 9, _, hi => obtain rfl := Option.some.inj hi; exact h
          | 10, _, hi => obtain rfl := Option.some.inj hi; exact h
          | k + 11, _, hi => simp at hi
        · intro i o hi ho
          match i, hi with
          | 0, _ =>
          obtain rfl := Option.some.inj ho
          intro a1 w1 K hk hK
          have e6 : a1.tmps.getD 6 undef = .pointer (some ⟨G, 0, none⟩) := hk.same 6 (by simp)
          simp [Region.wanted, Oper.wp, Act.eval, go_sem, e6, q0, x0, x1, x2, x3, x4]
          exact hK _ _ (step_late (by decide) rfl) rfl
          | 1, _ =>
          obtain rfl := Option.some.inj ho
          intro a1 w1 K hk hK
          have e6 : a1.tmps.getD 6 undef = .pointer (some ⟨G, 0, none⟩) := hk.same 6 (by simp)
          simp [Region.wanted, Oper.wp, Act.eval, go_sem, e6, q0, x0, x1, x2, x3, x4]
          exact hK _ _ (step_early (by decide) rfl (Below.refl _ _)) rfl
          | 2, _ =>
          obtain rfl := Option.some.inj ho
          intro a1 w1 K hk hK
          have d28 : a1.tmps.getD 28 undef = .pointer (some ⟨G, 0, none⟩) := hk.deps ⟨1, .data⟩ (by simp) rfl _ _ rfl rfl
          simp [Region.wanted, Oper.wp, Act.eval, go_sem, d28, q0, x0, x1, x2, x3, x4]
          exact hK _ _ (step_early (by decide) rfl (Below.refl _ _)) rfl
          | 3, _ =>
          obtain rfl := Option.some.inj ho
          intro a1 w1 K hk hK
          have d29 : a1.tmps.getD 29 undef = .pointer (some ⟨G, 0, none⟩) := hk.deps ⟨2, .data⟩ (by simp) rfl _ _ rfl rfl
          simp [Region.wanted, Oper.wp, Act.eval, go_sem, d29, q0, x0, x1, x2, x3, x4]
          exact hK _ _ (step_early (by decide) rfl (Below.refl _ _)) rfl
          | 4, _ =>
          obtain rfl := Option.some.inj ho
          intro a1 w1 K hk hK
          have d30 : a1.tmps.getD 30 undef = .pointer (some ⟨G, 0, none⟩) := hk.deps ⟨3, .data⟩ (by simp) rfl _ _ rfl rfl
          have c0 : w1.cell? ⟨G, 0, none⟩ = some (vb) := Below.keeps (hk.ext rfl) _ _ (by simp [go_sem, q0, x0, x1, x2, x3, x4])
          have c1 : w1.cell? ⟨C, 0, none⟩ = some (.slice A0 l[j].p.length cc) := Below.keeps (hk.ext rfl) _ _ (by simp [go_sem, q0, x0, x1, x2, x3, x4])
          have c2 : w1.cell? ⟨C, 1, none⟩ = some (.bool l[j].had) := Below.keeps (hk.ext rfl) _ _ (by simp [go_sem, q0, x0, x1, x2, x3, x4])
          have c3 : w1.cell? ⟨C, 2, none⟩ = some (.bool l[j].has) := Below.keeps (hk.ext rfl) _ _ (by simp [go_sem, q0, x0, x1, x2, x3, x4])
          have c4 : w1.cell? ⟨C, 3, none⟩ = some (.int .u64 (l[j].old : Nat)) := Below.keeps (hk.ext rfl) _ _ (by simp [go_sem, q0, x0, x1, x2, x3, x4])
          have c5 : w1.cell? ⟨C, 4, none⟩ = some (.int .u64 (l[j].new : Nat)) := Below.keeps (hk.ext rfl) _ _ (by simp [go_sem, q0, x0, x1, x2, x3, x4])
          simp [Region.wanted, Oper.wp, Act.eval, go_sem, d30, c0, c1, c2, c3, c4, c5, q0, x0, x1, x2, x3, x4]
          exact hK _ _ (step_early (by decide) rfl (Below.refl _ _)) rfl
          | 5, _ =>
          obtain rfl := Option.some.inj ho
          intro a1 w1 K hk hK
          have e8 : a1.tmps.getD 8 undef = .pointer (some ⟨C, 0, none⟩) := hk.same 8 (by simp)
          have c0 : w1.cell? ⟨G, 0, none⟩ = some (vb) := Below.keeps (hk.ext rfl) _ _ (by simp [go_sem, q0, x0, x1, x2, x3, x4])
          have c1 : w1.cell? ⟨C, 0, none⟩ = some (.slice A0 l[j].p.length cc) := Below.keeps (hk.ext rfl) _ _ (by simp [go_sem, q0, x0, x1, x2, x3, x4])
          have c2 : w1.cell? ⟨C, 1, none⟩ = some (.bool l[j].had) := Below.keeps (hk.ext rfl) _ _ (by simp [go_sem, q0, x0, x1, x2, x3, x4])
          have c3 : w1.cell? ⟨C, 2, none⟩ = some (.bool l[j].has) := Below.keeps (hk.ext rfl) _ _ (by simp [go_sem, q0, x0, x1, x2, x3, x4])
          have c4 : w1.cell? ⟨C, 3, none⟩ = some (.int .u64 (l[j].old : Nat)) := Below.keeps (hk.ext rfl) _ _ (by simp [go_sem, q0, x0, x1, x2, x3, x4])
          have c5 : w1.cell? ⟨C, 4, none⟩ = some (.int .u64 (l[j].new : Nat)) := Below.keeps (hk.ext rfl) _ _ (by simp [go_sem, q0, x0, x1, x2, x3, x4])
          simp [Region.wanted, Oper.wp, Act.eval, go_sem, e8, c0, c1, c2, c3, c4, c5, q0, x0, x1, x2, x3, x4]
          exact hK _ _ (step_early (by decide) rfl (Below.refl _ _)) rfl
          | 6, _ =>
          obtain rfl := Option.some.inj ho
          intro a1 w1 K hk hK
          have d32 : a1.tmps.getD 32 undef = .agg #[.slice A0 l[j].p.length cc, .bool l[j].had, .bool l[j].has, .int .u64 (l[j].old : Nat), .int .u64 (l[j].new : Nat)] := hk.deps ⟨5, .data⟩ (by simp) rfl _ _ rfl rfl
          simp [Region.wanted, Oper.wp, Act.eval, go_sem, d32, q0, x0, x1, x2, x3, x4]
          refine (HF.out _).mono ?_
          rintro e w9 ⟨rfl, hb9⟩
          exact hK _ _ (step_early (by decide) rfl hb9) rfl
          | 7, _ =>
          obtain rfl := Option.some.inj ho
          intro a1 w1 K hk hK
          have D33 : (a1.tmps.getD 33 undef) = .int .u8 ((Pk.flag l[j] : Nat) : Int) := hk.deps ⟨6, .data⟩ (by simp) rfl _ _ rfl rfl
          have D33' : a1.tmps.getD 33 undef = .int .u8 ((Pk.flag l[j] : Nat) : Int) := D33
          have D33x : a1.tmps[33]?.getD undef = .int .u8 ((Pk.flag l[j] : Nat) : Int) := by rw [← D33']; simp
          simp [Region.wanted, Oper.wp, Act.eval, go_sem, D33', D33x]
          refine hK _ _ (step_early (by decide) rfl (by repeat (first | exact Below.refl _ _ | assumption | (refine Below.drew ?_) | (refine below_drewN' ?_ _) | (refine below_alloc' ?_ _)))) ⟨_, rfl, ?_, ?_⟩
          · simp [go_sem]
          · intro e
            have h1 := (HIp.out.2.1.block _ e.symm).2.1
            have h2 := (hk.ext rfl).size
            simp at h2; omega
          | 8, _ =>
          obtain rfl := Option.some.inj ho
          intro a1 w1 K hk hK
          have d31 : a1.tmps.getD 31 undef = vb := hk.deps ⟨4, .data⟩ (by simp) rfl _ _ rfl rfl
          have D34 : ∃ g, (a1.tmps.getD 34 undef) = .slice (some ⟨g, 0, none⟩) 1 1 ∧ w1.cell? ⟨g, 0, none⟩ = some (.int .u8 ((Pk.flag l[j] : Nat) : Int)) ∧ some g ≠ vb.ownBlock := hk.deps ⟨7, .data⟩ (by simp) rfl _ _ rfl rfl
          obtain ⟨g, D34e, hg0, hgne⟩ := D34
          have hb1 : Below wC.heap.size wC w1 := below_trans (by repeat (first | exact Below.refl _ _ | assumption | (refine Below.drew ?_) | (refine below_drewN' ?_ _) | (refine below_alloc' ?_ _))) (hk.ext rfl)
          obtain ⟨v', w', hrun, r1, r2⟩ := run_append_B wA w1 vb (.slice (some ⟨g, 0, none⟩) 1 1) _ [Pk.flag l[j]] (HIp.out.2.1.below hb1) (RdB.one (Nat.le_refl _) (by simp [maxLen]) hg0) (Nat.le_trans HIp.out.2.2.2.1.size hb1.size) (by have := HLen.out; simp only [List.length_append, List.length_cons, List.length_nil]; omega) 73
          split
          · refine wp_append_run (s := .tmp 31) (x := .tmp 34) rfl (by rw [show a1.eval (.tmp 31) = vb from d31, show a1.eval (.tmp 34) = _ from D34e]; exact hrun) (hK _ _ (step_sp r2) ⟨w1, hb1, r2, r1⟩)
          · rename_i hw0; simp [Region.wanted] at hw0
          | 9, _ =>
          obtain rfl := Option.some.inj ho
          intro a1 w1 K hk hK
          have d27 : a1.tmps.getD 27 undef = .pointer (some ⟨G, 0, none⟩) := hk.deps ⟨0, .data⟩ (by simp) rfl _ _ rfl rfl
          simp [Region.wanted, Oper.wp, Act.eval, go_sem, d27, q0, x0, x1, x2, x3, x4]
          exact hK _ _ (step_late (by decide) rfl) rfl
          | 10, _ =>
          obtain rfl := Option.some.inj ho
          intro a1 w1 K hk hK
          have d36 : a1.tmps.getD 36 undef = .pointer (some ⟨G, 0, none⟩) := hk.deps ⟨9, .data⟩ (by simp) rfl _ _ rfl rfl
          simp [Region.wanted, Oper.wp, Act.eval, go_sem, d36, q0, x0, x1, x2, x3, x4]
          exact hK _ _ (step_late (by decide) rfl) rfl
        · intro vs w3 hl hv
          match vs, hl with
          | [v0, v1, v2, v3, v4, v5, v6, v7, v8, v9, v10], _ =>
          obtain rfl : v0 = .pointer (some ⟨G, 0, none⟩) := hv 0 (by omega)
          obtain rfl : v1 = .pointer (some ⟨G, 0, none⟩) := hv 1 (by omega)
          obtain rfl : v2 = .pointer (some ⟨G, 0, none⟩) := hv 2 (by omega)
          obtain rfl : v3 = .pointer (some ⟨G, 0, none⟩) := hv 3 (by omega)
          obtain rfl : vb = v4 := (show v4 = vb from hv 4 (by omega)).symm
          obtain rfl : v5 = .agg #[.slice A0 l[j].p.length cc, .bool l[j].had, .bool l[j].has, .int .u64 (l[j].old : Nat), .int .u64 (l[j].new : Nat)] := hv 5 (by omega)
          have q6 : v6 = .int .u8 ((Pk.flag l[j] : Nat) : Int) := hv 6 (by omega)
          have q7 : ∃ g, v7 = .slice (some ⟨g, 0, none⟩) 1 1 ∧ w3.cell? ⟨g, 0, none⟩ = some (.int .u8 ((Pk.flag l[j] : Nat) : Int)) ∧ some g ≠ vb.ownBlock := hv 7 (by omega)
          have q8 : ∃ wa, Below wC.heap.size wC wa ∧ World.grownBy wa w3 vb.ownBlock ∧ OwnB wA w3 v8 ((acc ++ Pk.lebP l[j].p last) ++ [Pk.flag l[j]]) := hv 8 (by omega)
          obtain rfl : v9 = .pointer (some ⟨G, 0, none⟩) := hv 9 (by omega)
          obtain rfl : v10 = .pointer (some ⟨G, 0, none⟩) := hv 10 (by omega)
          clear hv
          obtain ⟨g, rfl, hg0, hgne⟩ := q7
          obtain ⟨wa, hwa, hgr, hown8⟩ := q8
          obtain rfl : v6 = _ := q6
          obtain ⟨A8, n8, c8, e8⟩ : ∃ A n c, v8 = .slice A n c := by obtain ⟨A, c, e⟩ := hown8.shape; exact ⟨A, _, c, e⟩
          subst e8
          simp only [putAll, List.take_succ_cons, List.take_zero, List.drop_succ_cons, List.drop_zero, Act.put, List.setIfInBounds_toArray, List.set_cons_succ, List.set_cons_zero]
          obtain ⟨hb4, hI4⟩ := InvW.push HIp.out.2.2.2.2 ((hwa.block G hlG).trans HIp.out.1) (HIp.out.2.1.below hwa) (HIp.out.2.2.1.keep fun b cur fr hbk => hwa.block b (lt_of_block hbk)) (HIp.out.2.2.2.1.trans (hwa.mono HIp.out.2.2.2.1.size)) hown8 hgr
          have hkw : KeepW G wC w3 := (KeepW.below hwa).trans (KeepW.grown (HIp.out.2.1.below hwa) hgr)
          have hbx3 := hkw C _ _ _ HBox.out (by decide) hGC
          obtain ⟨y0, y1, y2, y3, y4⟩ := cells_of_five hbx3
          obtain ⟨r0, r1, rf⟩ := cells_of_two hb4
          have hbx4 := (KeepW.set (G := G) (k := 0) (w := w3) (u := .slice A8 n8 c8)) C _ _ _ hbx3 (by decide) hGC
          have HBox4 := Lib.hid hbx4
          have HI4 := Lib.hid hI4
          have hlC3 : C < w3.heap.size := lt_of_block hbx3
          clear hwa hgr hown8 hb4 hI4 hkw hbx3 hbx4 hg0 hgne x0 x1 x2 x3 x4 q0 q1 qf
          cases hh1 : l[j].had <;> cases hh2 : l[j].has
          all_goals
            rw [hh1] at y1
            rw [hh2] at y2
          · have HH := Lib.hid (And.intro hh1 hh2)
            clear hh1 hh2
            go_wp2_with fail
            go_roundw
            case rel => exact ⟨j + 1, _, l[j].p, by omega, by rw [HW.out], HI4.out, by rw [← HA.out]; simp [Pk.one, Pk.vals, HH.out.1, HH.out.2], HX.out.1, HX.out.2.2.1, by have := HLen.out; simp only [List.length_append, List.length_cons, List.length_nil]; omega⟩
            case measure => rw [intOf_of' HW.out, intOf_of' rfl]; omega
          · have HH := Lib.hid (And.intro hh1 hh2)
            clear hh1 hh2
            go_wp2_with fail
            refine (wNumber_any wA _ G l[j].new _ _ HI4.out HX.out.2.2.2.2.2 (by have := HLen.out; simp only [List.length_append, List.length_cons, List.length_nil]; omega)).mono ?_
            rintro e w6 ⟨rfl, hI6, hk6⟩
            have HI6 := Lib.hid hI6
            clear hI6 hk6
            go_wp2_with fail
            go_roundw
            case rel => exact ⟨j + 1, _, l[j].p, by omega, by rw [HW.out], HI6.out, by rw [← HA.out]; simp [Pk.one, Pk.vals, HH.out.1, HH.out.2], HX.out.1, HX.out.2.2.1, by have := HLen.out; simp only [List.length_append, List.length_cons, List.length_nil]; omega⟩
            case measure => rw [intOf_of' HW.out, intOf_of' rfl]; omega
          · have HH := Lib.hid (And.intro hh1 hh2)
            clear hh1 hh2
            go_wp2_with fail
            refine (wNumber_any wA _ G l[j].old _ _ HI4.out HX.out.2.2.2.2.1 (by have := HLen.out; simp only [List.length_append, List.length_cons, List.length_nil]; omega)).mono ?_
            rintro e w5 ⟨rfl, hI5, hk5⟩
            have hbx5 := hk5 C _ _ _ HBox4.out (by decide) hGC
            obtain ⟨z0, z1, z2, z3, z4⟩ := cells_of_five hbx5
            rw [HH.out.2] at z2
            have HBox5 := Lib.hid hbx5
            have hlC5 : C < w5.heap.size := lt_of_block hbx5
            have HI5 := Lib.hid hI5
            clear hI5 hk5 hbx5 y0 y1 y2 y3 y4 r0 r1 rf
            go_wp2_with fail
            go_roundw
            case rel => exact ⟨j + 1, _, l[j].p, by omega, by rw [HW.out], HI5.out, by rw [← HA.out]; simp [Pk.one, Pk.vals, HH.out.1, HH.out.2], HX.out.1, HX.out.2.2.1, by have := HLen.out; simp only [List.length_append, List.length_cons, List.length_nil]; omega⟩
            case measure => rw [intOf_of' HW.out, intOf_of' rfl]; omega
          · have HH := Lib.hid (And.intro hh1 hh2)
            clear hh1 hh2
            go_wp2_with fail
            refine (wNumber_any wA _ G l[j].old _ _ HI4.out HX.out.2.2.2.2.1 (by have := HLen.out; simp only [List.length_append, List.length_cons, List.length_nil]; omega)).mono ?_
            rintro e w5 ⟨rfl, hI5, hk5⟩
            have hbx5 := hk5 C _ _ _ HBox4.out (by decide) hGC
            obtain ⟨z0, z1, z2, z3, z4⟩ := cells_of_five hbx5
            rw [HH.out.2] at z2
            have HBox5 := Lib.hid hbx5
            have hlC5 : C < w5.heap.size := lt_of_block hbx5
            have HI5 := Lib.hid hI5
            clear hI5 hk5 hbx5 y0 y1 y2 y3 y4 r0 r1 rf
            go_wp2_with fail
            refine (wNumber_any wA _ G l[j].new _ _ HI5.out HX.out.2.2.2.2.2 (by have := HLen.out; simp only [List.length_append, List.length_cons, List.length_nil]; omega)).mono ?_
            rintro e w6 ⟨rfl, hI6, hk6⟩
            have HI6 := Lib.hid hI6
            clear hI6 hk6
            go_wp2_with fail
            go_roundw
            case rel => exact ⟨j + 1, _, l[j].p, by omega, by rw [HW.out], HI6.out, by rw [← HA.out]; simp [Pk.one, Pk.vals, HH.out.1, HH.out.2], HX.out.1, HX.out.2.2.1, by have := HLen.out; simp only [List.length_append, List.length_cons, List.length_nil]; omega⟩
            case measure => rw [intOf_of' HW.out, intOf_of' rfl]; omega
      · have HE := Lib.hid (show acc = Pk.bytes n l by rw [← hacc, List.drop_of_length_le (by omega)]; simp [Pk.all])
        obtain ⟨vb, vl, hblk, hown, hpt, hb, hG⟩ := hI
        obtain ⟨A8, c8, rfl⟩ := hown.shape
        have hlG : G < wr.heap.size := lt_of_block hblk
        obtain ⟨q0, q1, qf⟩ := cells_of_two hblk
        have HOw := Lib.hid hown.rd
        clear hacc hblk hown hpt hb hG hlen
        go_wp2_with fail
        go_ret2
        rw [← HE.out]
        exact ⟨⟨A8, c8, rfl, HOw.out⟩, HBw.out⟩
end Go.Proofs.Ytlmgabhdeeehmaa
