/-
  Texts that the proof of BulkMakes leans on, part 4: contracts of functions, and plain laws.
-/
import Derived.Test.YtjokcagggmjgmaaGreatMBulkMakes3
import Derived.LaidEqlPtr
/-! TrD -/
namespace Go.Proofs.YtjokcagggmjgmaaGreat
open Go.RowKit
set_option linter.unusedVariables false
set_option linter.unusedSimpArgs false

theorem without_path {w w1 : World} {k b s n x : Nat} {p pre : List Nat} {ks : List (Nat × Nat × List En)} (hb : Below w.heap.size w w1) (hp : p.length = k) (ho : ∀ c ∈ p, c < 2 ^ 64)
    (h : Hd w b n pre 0 (.pointer (some ⟨s, 0, none⟩)) (sumsL (cat (ks.map kl)))) (hs : SlR w s k (ks.map kb)) (hk : Kd k n pre (ks.map kl)) (hn : ∀ x ∈ ks, Nd w k x.2.1 x.2.2) (he : [⟨p, x⟩] = kidOf (Zb.addr p n) (ks.map kl)) :
    Calls Tryz.prog 104 #[.pointer (some ⟨b, 0, none⟩), .int .i64 (Zb.addr p n : Nat)] w1 fun e w' => NdT w1 k (delE p (cat (ks.map kl))) e w' := by
  obtain ⟨d1, d2, d3⟩ := hk.delOut hp ho (by rw [← he, del_one])
  obtain ⟨y, hy, hya, _⟩ := kidOf_mem (show (⟨p, x⟩ : En) ∈ kidOf (Zb.addr p n) (ks.map kl) by rw [← he]; simp)
  obtain ⟨z, hz, rfl⟩ := List.mem_map.1 hy
  obtain ⟨i0, hi0, rfl⟩ := List.getElem_of_mem hz
  have hlen : (Od.del ka (Zb.addr p n) (ks.map kl)).length + 1 = (ks.map kl).length := Od.del_length_eq (key := ka) (by
    intro e
    exact Od.look_none (key := ka) e _ hy hya)
  have h2 := hk.two
  have hdk := (del_ks (Zb.addr p n) ks).2
  rcases Nat.lt_or_ge (Od.del ka (Zb.addr p n) (ks.map kl)).length 2 with hlt | hge
  · have h1 : (Od.del ka (Zb.addr p n) ks).length = 1 := by rw [← hdk, List.length_map] at hlen hlt; omega
    obtain ⟨y, hy1⟩ := List.length_eq_one_iff.1 h1
    have hmem : y ∈ ks := by
      have : y ∈ Od.del ka (Zb.addr p n) ks := by rw [hy1]; simp
      have hasc : Od.Asc ka ks := by
        have := hk.asc
        unfold Od.Asc at this ⊢
        exact (List.pairwise_map (f := kl)).1 this
      exact ((Od.mem_del_iff (key := ka) hasc).1 this).1
    refine (nwo_one w1 k b s n i0 _ pre ks y (h.keep hb) (hs.below hb) hi0 hya hy1).mono ?_
    rintro e w2 ⟨rfl, hb2⟩
    refine ⟨_, rfl, ?_, hb2⟩
    have hc := d3 (by omega)
    rw [← hdk, hy1] at hc
    have : cat ([y].map kl) = y.2.2 := by simp [cat, kl]
    rw [← hc, this]
    exact ((hn y hmem).bel hb).bel hb2
  · rw [← d3 (by omega)]
    exact nwo_more w1 k b s n i0 _ pre ks (h.keep hb) (hs.below hb) (fun x hx => (hn x hx).bel hb) hi0 hya (d1 hge)
/-- Del -/
def DelP (W : World) (k : Nat) (p : List Nat) (l : List En) (e : Ending) (w' : World) : Prop := Below W.heap.size W w' ∧
  ((getE l p = none ∧ e = .returned (.tuple #[.pointer none, .int .i64 6])) ∨ (∃ x g, getE l p = some x ∧ e = .returned (.tuple #[.pointer (some ⟨g, 0, none⟩), .int .i64 0]) ∧ TrR w' g k (delE p l) ∧ W.heap.size ≤ g))
set_option maxRecDepth 100000
set_option maxHeartbeats 4000000 in
theorem tdel_any (w : World) (t k : Nat) (p : List Nat) (l : List En) (vp : Value) (ht : TrR w t k l) (hp : RdU w vp (pti p)) (hl : p.length = k) (ho : ∀ c ∈ p, c < 2 ^ 64) :
    Calls Tryz.prog 56 #[.pointer (some ⟨t, 0, none⟩), vp] w fun e w' => DelP w k p l e w' := by
  have HPA := Lib.hid (path_any w t k p l vp ht hp hl ho)
  have HCK := Lib.hid (fun n c A => tchk_any w t k n c A ht.c0)
  have HV := Lib.hid hp
  obtain ⟨A2, c2, rfl, _⟩ := RdU.point hp
  rw [hl] at HPA HV ⊢
  have HD := Lib.hid (And.intro hl (And.intro ho (And.intro ht.k1 ht.k16)))
  have HT := Lib.hid ht
  clear ht hp hl ho
  go_enter Tryz.func56, Tryz.ntmps56
  go_wp2_with fail
  refine (HCK.out k c2 A2).mono ?_
  rintro e w1 ⟨rfl, hw⟩
  obtain rfl := hw.symm
  rw [if_pos rfl]
  go_wp2_with fail
  refine HPA.out.mono ?_
  rintro e w1 ⟨v0, bs, below, rfl, hown, hb, hbl, hcase⟩
  have hrd := hown.rdN
  rcases path_found HD.out.1 HD.out.2.1 HD.out.2.2.1 HD.out.2.2.2 hb hrd hbl hcase with ⟨hg, hlr, hf⟩ | ⟨x, bs0, b, hg, hbs, hch, hf⟩
  · have HF := Lib.hid hf
    have HB := Lib.hid hb
    have HG := Lib.hid hg
    obtain ⟨A, c, rfl, _, _⟩ := hrd
    obtain ⟨bq, hbq⟩ := pv_ex below
    rw [hbq]
    clear hf hb hcase hown hg hlr hbl hbq
    go_wp2_with fail
    refine HF.out.mono ?_
    rintro e w2 ⟨rfl, hb2⟩
    have HB2 := Lib.hid (HB.out.trans (hb2.mono HB.out.size))
    clear hb2
    go_wp2_with fail
    go_ret2
    exact ⟨(by repeat (first | exact HB2.out | (refine Below.drew ?_) | (refine below_drewN' ?_ _) | (refine below_alloc' ?_ _) | (refine Below.setCell ?_ (by first | exact Nat.le_refl _ | (have := HB2.out.size; simp; omega) | (have := HB2.out.size; omega)) _))), .inl ⟨HG.out, rfl⟩⟩
  · have HF := Lib.hid hf
    have HB := Lib.hid hb
    have HR := Lib.hid (And.intro hrd hbl)
    have HG := Lib.hid (And.intro hg (And.intro hbs hch))
    obtain ⟨A, c, rfl, hcc, hA⟩ := hrd
    obtain ⟨ga, rfl, hcells⟩ := hA (by rw [hbs]; simp)
    obtain ⟨bq, hbq⟩ := pv_ex below
    rw [hbq]
    rcases List.eq_nil_or_concat bs0 with rfl | ⟨bs1, b1, rfl⟩
    · have hlen : bs.length = 1 := by rw [hbs]; rfl
      rw [hlen] at HF ⊢
      clear hf hb hcase hown hg hbs hch hbl hbq hcells hA hlen hcc
      go_wp2_with fail
      refine HF.out.mono ?_
      rintro e w2 ⟨u, rfl, hpt, hb2⟩
      obtain ⟨A9, c9, rfl, _⟩ := RdU.point hpt.rd
      have HB2 := Lib.hid (HB.out.trans (hb2.mono HB.out.size))
      have t0 := Below.keeps HB2.out _ _ HT.out.c0
      have htl : t < w2.heap.size := World.block_lt_of_cell? _ _ t0
      clear hb2 hpt
      have htn : ¬ w2.heap.size = t := by omega
      go_wp2_with fail
      go_ret2
      have hl : l = [⟨p, x⟩] := by
        have := HG.out.2.2
        generalize hbs : ([] : List Nat) = ys at this
        generalize he : [(⟨p, x⟩ : En)] = zs at this
        cases this with
        | nil => rfl
        | snoc bs' _ b' s n pre ks sub h hs hk hn hc => simp at hbs
      refine ⟨(by repeat (first | exact HB2.out | (refine Below.drew ?_) | (refine below_drewN' ?_ _) | (refine below_alloc' ?_ _) | (refine Below.setCell ?_ (by first | exact Nat.le_refl _ | (have := HB2.out.size; simp; omega) | (have := HB2.out.size; omega)) _))), .inr ⟨x, _, HG.out.1, rfl, ⟨?_, ⟨none, ?_, ?_⟩, HD.out.2.2.1, HD.out.2.2.2, _, (by have h := alloc_blk (w2.alloc (.cells #[.slice A9 p.length c9, .int .u64 (x : Nat)] 51)) (.cells #[.int .i64 (k : Nat), .pointer none] 154); rw [World.size_alloc] at h; exact h)⟩, ?_⟩⟩
      · simp [go_sem]
      · simp [go_sem, pv_none]
      · rw [hl, del_one]; exact rfl
      · have := HB2.out.size; simp; omega
    · rw [List.concat_eq_append] at *
      have hlen : bs.length = bs1.length + 2 := by rw [hbs]; simp
      obtain ⟨s, n, pre, ks, hsub, hh, hs, hk, hn, hc, he⟩ := hch.inv
      have HWO := Lib.hid (fun w1 hb => without_path (w := w) (w1 := w1) hb HD.out.1 HD.out.2.1 hh hs hk hn he)
      have hj := hcells bs1.length (by omega)
      have hb1 : bs[bs1.length]'(by omega) = b1 := by simp [hbs]
      rw [hb1] at hj
      have HJ := Lib.hid hj
      have HLV := Lib.hid (fun w1 (hb : Below w.heap.size w w1) => nlev_any w1 b1 n (Below.keeps hb _ _ hh.c0))
      have HZA := Lib.hid (fun w1 (hb : Below w.heap.size w w1) => zAddr_any p n _ w1 (HV.out.below hb) (by have := HD.out; omega) (by have := HD.out; omega) HD.out.2.1 hk.n64)
      have HX := Lib.hid (And.intro hsub hlen)
      have HD0 := Lib.hid (And.intro (del_one p x) he)
      have HP := Lib.hid (HR.out.1.take (tl := [b1, b]) (j := bs1.length) (bs0 := bs1) (by rw [hbs]; simp) rfl)
      have h1 : (0 : Int) ≤ (bs1.length : Int) := by omega
      have h2 : (bs1.length : Int) < (bs1.length : Int) + 2 := by omega
      have h3 : (bs1.length : Int) ≤ (c : Int) := by omega
      have h4 : (((bs1.length : Int) + 2) == 1) = false := by simp; omega
      have hc0 : ¬ c = 0 := by omega
      have hw0 : wrap64 (bs1.length : Int) = (bs1.length : Int) := by unfold wrap64; omega
      rw [hlen] at HF ⊢
      clear hf hb hcase hown hg hbs hch hbl hbq hcells hA hlen hcc hsub hh hs hk hn hc he hj hb1
      go_wp2_with fail
      refine HF.out.mono ?_
      rintro e w2 ⟨u, rfl, hpt, hb2⟩
      obtain ⟨A9, c9, rfl, _⟩ := RdU.point hpt.rd
      have HB2 := Lib.hid (HB.out.trans (hb2.mono HB.out.size))
      have HB2r := Lib.hid hb2
      have x0 := Below.keeps hb2 _ _ HJ.out
      have hxl : ga < w2.heap.size := World.block_lt_of_cell? w2 _ x0
      have hgn : ¬ w2.heap.size = ga := by omega
      clear hb2 hpt
      go_wp2_with fail
      refine (HLV.out _ (by repeat (first | exact HB2.out | (refine Below.drew ?_) | (refine below_drewN' ?_ _) | (refine below_alloc' ?_ _) | (refine Below.setCell ?_ (by first | exact Nat.le_refl _ | (have := HB2.out.size; simp; omega) | (have := HB2.out.size; omega)) _)))).mono ?_
      rintro e w3 ⟨rfl, hw⟩
      obtain rfl := hw.symm
      go_wp2_with fail
      refine (HZA.out _ (by repeat (first | exact HB2.out | (refine Below.drew ?_) | (refine below_drewN' ?_ _) | (refine below_alloc' ?_ _) | (refine Below.setCell ?_ (by first | exact Nat.le_refl _ | (have := HB2.out.size; simp; omega) | (have := HB2.out.size; omega)) _)))).mono ?_
      rintro e w3 ⟨rfl, hw⟩
      obtain rfl := hw.symm
      go_wp2_with fail
      refine (HWO.out _ (by repeat (first | exact HB2.out | (refine Below.drew ?_) | (refine below_drewN' ?_ _) | (refine below_alloc' ?_ _) | (refine Below.setCell ?_ (by first | exact Nat.le_refl _ | (have := HB2.out.size; simp; omega) | (have := HB2.out.size; omega)) _)))).mono ?_
      rintro e w3 ⟨g3, rfl, hn3, hb3⟩
      have hb4 : Below w.heap.size w w3 := (show Below w.heap.size w _ from (by repeat (first | exact HB2.out | (refine Below.drew ?_) | (refine below_drewN' ?_ _) | (refine below_alloc' ?_ _) | (refine Below.setCell ?_ (by first | exact Nat.le_refl _ | (have := HB2.out.size; simp; omega) | (have := HB2.out.size; omega)) _)))).trans (hb3.mono (show w.heap.size ≤ _ from Below.size (by repeat (first | exact HB2.out | (refine Below.drew ?_) | (refine below_drewN' ?_ _) | (refine below_alloc' ?_ _) | (refine Below.setCell ?_ (by first | exact Nat.le_refl _ | (have := HB2.out.size; simp; omega) | (have := HB2.out.size; omega)) _)))))
      have hb1 : Below w1.heap.size w1 w3 := (show Below w1.heap.size w1 _ from (by repeat (first | exact HB2r.out | (refine Below.drew ?_) | (refine below_drewN' ?_ _) | (refine below_alloc' ?_ _) | (refine Below.setCell ?_ (by first | exact Nat.le_refl _ | (have := HB2r.out.size; simp; omega) | (have := HB2r.out.size; omega)) _)))).trans (hb3.mono (show w1.heap.size ≤ _ from Below.size (by repeat (first | exact HB2r.out | (refine Below.drew ?_) | (refine below_drewN' ?_ _) | (refine below_alloc' ?_ _) | (refine Below.setCell ?_ (by first | exact Nat.le_refl _ | (have := HB2r.out.size; simp; omega) | (have := HB2r.out.size; omega)) _)))))
      have HUP := Lib.hid (up_any w3 t k g3 p bs1 l _ _ (delE p) (Below.keeps hb4 _ _ HT.out.c0) HD.out.2.2.1 HD.out.2.2.2 (HP.out.below hb1) (HX.out.1.bel hb4) (opok_del HD.out.1 HD.out.2.1) hn3 (by have := HR.out.2; have := HX.out.2; omega))
      have HN := Lib.hid hb4
      clear hn3 hb3 hb4 hb1
      go_wp2_with fail
      refine HUP.out.mono ?_
      rintro e w4 ⟨g4, rfl, ht4, hb4, hg4⟩
      have HF4 := Lib.hid (And.intro ht4 (And.intro (HN.out.trans (hb4.mono HN.out.size)) (Nat.le_trans HN.out.size hg4)))
      clear ht4 hb4 hg4
      go_wp2_with fail
      go_ret2
      exact ⟨HF4.out.2.1, .inr ⟨x, g4, HG.out.1, rfl, HF4.out.1, HF4.out.2.2⟩⟩
end Go.Proofs.YtjokcagggmjgmaaGreat
/-! TrE -/
namespace Go.Proofs.YtjokcagggmjgmaaGreat
open Go.RowKit
set_option linter.unusedVariables false
set_option linter.unusedSimpArgs false

set_option maxRecDepth 100000
theorem of_nil (w : World) (k : Nat) (k1 : 1 ≤ k) (k16 : k ≤ 16) :
    Calls Tryz.prog 68 #[.int .i64 (k : Nat), .pointer none] w fun e w' => ∃ g, e = .returned (.tuple #[.pointer (some ⟨g, 0, none⟩), .int .i64 0]) ∧ TrR w' g k [] ∧ Below w.heap.size w w' := by
  have HD := Lib.hid (And.intro k1 k16)
  have h1 : ¬ (k : Int) < 1 := by omega
  have h2 : ¬ (k : Int) > 16 := by omega
  have h3 : decide ((k : Int) < 1) = false := by simp; omega
  have h4 : decide ((k : Int) > 16) = false := by simp; omega
  clear k1 k16
  go_enter Tryz.func68, Tryz.ntmps68
  go_wp2_with fail
  go_ret2
  exact ⟨_, rfl, ⟨by simp [go_sem], ⟨none, by simp [go_sem, pv_none], rfl⟩, HD.out.1, HD.out.2, _, alloc_blk _ _⟩, (by repeat (first | exact Below.refl _ _ | (refine Below.drew ?_) | (refine below_drewN' ?_ _) | (refine below_alloc' ?_ _) | (refine Below.setCell ?_ (by first | exact Nat.le_refl _ | (simp; done) | (simp; omega)) _)))⟩
theorem of_bad (w : World) (k : Int) (q : Option Addr) (h : k < 1 ∨ 16 < k) :
    Calls Tryz.prog 68 #[.int .i64 k, .pointer q] w fun e w' => e = .returned (.tuple #[.pointer none, .int .i64 3]) ∧ w' = w := by
  by_cases h1 : k < 1
  · have h3 : decide (k < 1) = true := by simp; omega
    clear h
    go_enter Tryz.func68, Tryz.ntmps68
    go_wp2_with fail
    go_ret2
    exact ⟨rfl, rfl⟩
  · have h3 : decide (k < 1) = false := by simp; omega
    have h4 : decide (k > 16) = true := by simp; omega
    have h2 : k > 16 := by omega
    clear h
    go_enter Tryz.func68, Tryz.ntmps68
    go_wp2_with fail
    go_ret2
    exact ⟨rfl, rfl⟩
theorem tnew_any (w : World) (k : Nat) (k1 : 1 ≤ k) (k16 : k ≤ 16) :
    Calls Tryz.prog 50 #[.int .i64 (k : Nat)] w fun e w' => ∃ g, e = .returned (.tuple #[.pointer (some ⟨g, 0, none⟩), .int .i64 0]) ∧ TrR w' g k [] ∧ Below w.heap.size w w' := by
  have HO := Lib.hid (of_nil w k k1 k16)
  clear k1 k16
  go_enter Tryz.func50, Tryz.ntmps50
  go_wp2_with fail
  refine HO.out.mono ?_
  rintro e w1 ⟨g, rfl, ht, hb⟩
  have HT := Lib.hid (And.intro ht hb)
  clear ht hb
  go_wp2_with fail
  go_ret2
  exact ⟨g, rfl, HT.out.1, HT.out.2⟩
theorem tput_dim (w : World) (t k n c v : Nat) (A : Option Addr) (l : List En) (ht : TrR w t k l) (hn : n ≠ k) :
    Calls Tryz.prog 55 #[.pointer (some ⟨t, 0, none⟩), .slice A n c, .int .u64 (v : Nat)] w fun e w' => e = .returned (.tuple #[.pointer none, .int .i64 2]) ∧ w' = w := by
  have HC := Lib.hid (tchk_any w t k n c A ht.c0)
  rw [if_neg hn] at HC
  clear ht hn
  go_enter Tryz.func55, Tryz.ntmps55
  go_wp2_with fail
  refine HC.out.mono ?_
  rintro e w1 ⟨rfl, hw⟩
  obtain rfl := hw.symm
  go_wp2_with fail
  go_ret2
  exact ⟨rfl, rfl⟩
theorem tdel_dim (w : World) (t k n c : Nat) (A : Option Addr) (l : List En) (ht : TrR w t k l) (hn : n ≠ k) :
    Calls Tryz.prog 56 #[.pointer (some ⟨t, 0, none⟩), .slice A n c] w fun e w' => e = .returned (.tuple #[.pointer none, .int .i64 2]) ∧ w' = w := by
  have HC := Lib.hid (tchk_any w t k n c A ht.c0)
  rw [if_neg hn] at HC
  clear ht hn
  go_enter Tryz.func56, Tryz.ntmps56
  go_wp2_with fail
  refine HC.out.mono ?_
  rintro e w1 ⟨rfl, hw⟩
  obtain rfl := hw.symm
  go_wp2_with fail
  go_ret2
  exact ⟨rfl, rfl⟩
end Go.Proofs.YtjokcagggmjgmaaGreat
/-! Ent -/
namespace Go.Proofs.YtjokcagggmjgmaaGreat
open Go.RowKit
set_option linter.unusedVariables false

/-- the entry's two cells at block b, from o on -/
def EnAt (w : World) (b o : Nat) (e : En) : Prop :=
  ∃ v, w.cell? ⟨b, o, none⟩ = some v ∧ RdU w v (pti e.p) ∧ w.cell? ⟨b, o + 1, none⟩ = some (.int .u64 (e.v : Nat))
/-- the slice value v reads as the list l of entries -/
def RdE (w : World) (v : Value) (l : List En) : Prop :=
  ∃ A c, v = .slice A l.length c ∧ (l.length ≤ c ∧ c ≤ maxLen ∧ (0 < c → ∃ b o, A = some ⟨b, o, none⟩)) ∧ (0 < l.length → ∃ b o, A = some ⟨b, o, none⟩ ∧ ∀ j (h : j < l.length), EnAt w b (o + j * 2) l[j])
theorem EnAt.keep {w w' : World} {b o : Nat} {c : En} (h : EnAt w b o c) (hk : ∀ a x, w.cell? a = some x → w'.cell? a = some x) : EnAt w' b o c := by
  obtain ⟨v, h0, hv, h1⟩ := h
  exact ⟨v, hk _ _ h0, RdU.keep hv hk, hk _ _ h1⟩
theorem RdE.keep {w w' : World} {v : Value} {l : List En} (h : RdE w v l) (hk : ∀ a x, w.cell? a = some x → w'.cell? a = some x) : RdE w' v l := by
  obtain ⟨A, c, e, hl, h⟩ := h
  exact ⟨A, c, e, hl, fun hp => let ⟨b, o, ha, hc⟩ := h hp; ⟨b, o, ha, fun j hj => (hc j hj).keep hk⟩⟩
theorem RdE.below {w w' : World} {v : Value} {l : List En} (h : RdE w v l) (hb : Below w.heap.size w w') : RdE w' v l := RdE.keep h (Below.keeps hb)
theorem RdE.nil (w : World) (A : Option Addr) (c : Nat) (h : c ≤ maxLen) (h0 : 0 < c → ∃ b o, A = some ⟨b, o, none⟩) : RdE w (.slice A 0 c) [] := ⟨A, c, rfl, ⟨Nat.zero_le _, h, h0⟩, fun h => absurd h (by simp)⟩
/-- the cells cs hold the entries l, their points as they stand in w -/
def CellsL (w : World) : List En → List Value → Prop
  | [], cs => cs = []
  | e :: l, cs => ∃ u ds, cs = u :: .int .u64 (e.v : Nat) :: ds ∧ RdU w u (pti e.p) ∧ CellsL w l ds
def CellsE (w : World) (cs : List Value) (l : List En) : Prop := CellsL w l cs
theorem CellsE.nil (w : World) : CellsE w [] [] := rfl
theorem CellsE.length {w : World} {cs : List Value} {l : List En} (h : CellsE w cs l) : cs.length = l.length * 2 := by
  induction l generalizing cs with
  | nil => obtain rfl : cs = [] := h; rfl
  | cons e l ih => obtain ⟨u, ds, rfl, _, h⟩ := h; have := ih h; simp; omega
theorem CellsE.append {w : World} {cs ds : List Value} {l m : List En} (h : CellsE w cs l) (k : CellsE w ds m) : CellsE w (cs ++ ds) (l ++ m) := by
  induction l generalizing cs with
  | nil => obtain rfl : cs = [] := h; exact k
  | cons e l ih => obtain ⟨u, ds, rfl, hu, h⟩ := h; exact ⟨u, _, rfl, hu, ih h⟩
theorem CellsE.one {w : World} {u : Value} {p : List Nat} (v : Nat) (h : RdU w u (pti p)) : CellsE w [u, .int .u64 v] [⟨p, v⟩] := ⟨u, [], rfl, h, rfl⟩
theorem CellsE.keep {w w' : World} {cs : List Value} {l : List En} (h : CellsE w cs l) (hk : ∀ a x, w.cell? a = some x → w'.cell? a = some x) : CellsE w' cs l := by
  induction l generalizing cs with
  | nil => exact h
  | cons e l ih => obtain ⟨u, ds, rfl, hu, h⟩ := h; exact ⟨u, ds, rfl, hu.keep hk, ih h⟩
theorem CellsE.oneCell {w : World} {cs : List Value} {l : List En} (h : CellsE w cs l) : ∀ u ∈ cs, u.oneCell' = true := by
  induction l generalizing cs with
  | nil => obtain rfl : cs = [] := h; intro u hu; simp at hu
  | cons e l ih =>
    obtain ⟨u, ds, rfl, hu, h⟩ := h
    intro y hy
    rcases List.mem_cons.1 hy with rfl | hy
    · exact RdU.one' hu
    · rcases List.mem_cons.1 hy with rfl | hy
      · rfl
      · exact ih h y hy
theorem CellsE.at {w w' : World} {cs : List Value} {l : List En} (h : CellsE w cs l) (hk : ∀ a x, w.cell? a = some x → w'.cell? a = some x) {b o : Nat} (hc : ∀ j (h : j < cs.length), w'.cell? ⟨b, o + j, none⟩ = some cs[j]) :
    ∀ j (h : j < l.length), EnAt w' b (o + j * 2) l[j] := by
  induction l generalizing cs o with
  | nil => intro j hj; simp at hj
  | cons e l ih =>
    obtain ⟨u, ds, rfl, hu, h⟩ := h
    · intro j hj
      cases j with
      | zero =>
        have c0 := hc 0 (by simp)
        have c1 := hc 1 (by simp)
        simp only [List.getElem_cons_zero, List.getElem_cons_succ, Nat.add_zero] at c0 c1
        simp only [List.getElem_cons_zero, Nat.zero_mul, Nat.add_zero]
        exact ⟨u, c0, hu.keep hk, c1⟩
      | succ j =>
        have := ih h (o := o + 2) (fun i hi => by
          have := hc (i + 2) (by simpa using hi)
          simp only [List.getElem_cons_succ] at this
          rw [show o + 2 + i = o + (i + 2) by omega]; exact this) j (by simpa using hj)
        simp only [List.getElem_cons_succ]
        rw [show o + (j + 1) * 2 = o + 2 + j * 2 by omega]; exact this
/-- what is read can be laid elsewhere -/
theorem cellsE_of {w : World} {b : Nat} {l : List En} {o : Nat} (h : ∀ j (h : j < l.length), EnAt w b (o + j * 2) l[j]) : ∃ cs, CellsE w cs l ∧ ∀ j u, cs[j]? = some u → w.cell? ((⟨b, o, none⟩ : Addr).add j) = some u := by
  induction l generalizing o with
  | nil => exact ⟨[], rfl, fun j u h => by simp at h⟩
  | cons e l ih =>
    obtain ⟨cs, i1, i2⟩ := ih (o := o + 2) (fun j hj => by
      have := h (j + 1) (by simpa using hj)
      rw [show o + 2 + j * 2 = o + (j + 1) * 2 by omega]
      simpa using this)
    have h0 := h 0 (by simp)
    simp only [Nat.zero_mul, Nat.add_zero, List.getElem_cons_zero] at h0
    obtain ⟨v, c0, hv, c1⟩ := h0
    have key : ∀ (o j : Nat), (⟨b, o, none⟩ : Addr).add j = ⟨b, o + j, none⟩ := fun o j => by
      unfold Addr.add; split
      · rename_i h; subst h; rfl
      · rfl
    refine ⟨v :: .int .u64 (e.v : Nat) :: cs, ⟨v, cs, rfl, hv, i1⟩, fun j u hj => ?_⟩
    rw [key]
    match j with
    | 0 => simp at hj; subst hj; exact c0
    | 1 => simp at hj; subst hj; exact c1
    | j + 2 =>
      simp only [List.getElem?_cons_succ] at hj
      have := i2 j u hj
      rw [key] at this
      rw [show o + (j + 2) = o + 2 + j by omega]; exact this

/-- v is a row of the call's own (the call began in W) that holds the entries l -/
def OwnE (W w : World) (v : Value) (l : List En) : Prop := ∃ cs, w.ownsRow W.heap.size 51 2 v l.length cs ∧ CellsE W cs l
theorem OwnE.rd {W w : World} {v : Value} {l : List En} (h : OwnE W w v l) (hb : Below W.heap.size W w) : RdE w v l := by
  obtain ⟨cs, ho, hc⟩ := h
  obtain ⟨h1, h2⟩ := ho
  rcases h2 with ⟨rfl, h0⟩ | ⟨g, cap, cur, rfl, hg, hh, hcap, hm, hs, ht⟩
  · exact ⟨none, 0, by rw [h0], ⟨by omega, Nat.zero_le _, fun h => absurd h (by omega)⟩, fun hp => absurd hp (by omega)⟩
  · refine ⟨_, _, rfl, ⟨hcap, hm, fun h => ⟨g, 0, rfl⟩⟩, fun hp => ⟨g, 0, rfl, hc.at (Below.keeps hb) fun j hj => ?_⟩⟩
    have h3 : cs[j]? = some cs[j] := List.getElem?_eq_getElem hj
    have h4 : j < l.length * 2 := by omega
    rw [← h3, ← ht, List.getElem?_take_of_lt h4, World.cell?]
    simp only [hh, Nat.zero_add]
    simp
theorem OwnE.nil (W w : World) : OwnE W w (.slice none 0 0) [] := ⟨[], World.ownsRow_nil _ _ _ _, rfl⟩
theorem entryInfo : (Tryz.prog.info? 51).map (fun i => (i.zero, i.size, i.bytes)) = some (some (.agg #[.slice none 0 0, .int .u64 0]), 2, 32) := by kernel_rfl
/-- entries to be appended -/
def SrcE (W w : World) (x : Value) (m : List En) : Prop := ∃ cs, CellsE W cs m ∧ Src w 2 m.length x cs
theorem RdE.src {W w : World} {x : Value} {m : List En} (h : RdE W x m) (hb : Below W.heap.size W w) : SrcE W w x m := by
  obtain ⟨A, c, rfl, hcap, hm⟩ := h
  by_cases h0 : 0 < m.length
  · obtain ⟨b, o, rfl, hc⟩ := hm h0
    obtain ⟨cs, c1, c2⟩ := cellsE_of hc
    exact ⟨cs, c1, c1.length, c1.oneCell, _, c, rfl, (fun h => by cases h), fun ad had j u hj => by injection had with had; subst had; exact Below.keeps hb _ _ (c2 j u hj)⟩
  · obtain rfl : m = [] := List.eq_nil_of_length_eq_zero (by omega)
    have hA0 : A = none → c = 0 := fun h => by
      by_cases hc : 0 < c
      · obtain ⟨b, o, e⟩ := hcap.2.2 hc
        rw [h] at e; cases e
      · omega
    exact ⟨[], rfl, by simp, fun u hu => by simp at hu, A, c, rfl, fun h => ⟨rfl, hA0 h⟩, fun ad had j u hj => by simp at hj⟩
theorem SrcE.one {W w : World} {b c : Nat} {u : Value} {p : List Nat} {v : Nat} (h0 : w.cell? ⟨b, 0, none⟩ = some u) (hu : RdU W u (pti p)) (h1 : w.cell? ⟨b, 1, none⟩ = some (.int .u64 v)) : SrcE W w (.slice (some ⟨b, 0, none⟩) 1 c) [⟨p, v⟩] :=
  ⟨[u, .int .u64 v], CellsE.one v hu, rfl, (CellsE.one v hu).oneCell, _, c, rfl, (fun h => by cases h), fun ad had j x hj => by
    injection had with had; subst had
    match j with
    | 0 => simp at hj; subst hj; simpa [Addr.add] using h0
    | 1 => simp at hj; subst hj; simpa [Addr.add] using h1
    | j + 2 => simp at hj⟩
/-- reslicing -/
theorem cut_addr {A : Option Addr} {b o k c s : Nat} (h : A = some ⟨b, o, none⟩) (hk : k < c) : (if c = k then A else A.map (·.add (k * s))) = some ⟨b, o + k * s, none⟩ := by
  rw [if_neg (by omega), h]
  simp only [Option.map_some, Addr.add]
  split
  · rename_i h0; rw [h0]; rfl
  · rfl
theorem RdE.drop {w : World} {A : Option Addr} {c : Nat} {l : List En} (h : RdE w (.slice A l.length c) l) (k : Nat) (hk : k ≤ l.length) :
    RdE w (.slice (if c = k then A else A.map (·.add (k * 2))) (l.length - k) (c - k)) (l.drop k) := by
  obtain ⟨A', c', e, ⟨h1, h2, h3⟩, hm⟩ := h
  injection e with e1 _ e2
  subst e1 e2
  refine ⟨_, _, by rw [List.length_drop], ⟨by rw [List.length_drop]; omega, by omega, fun h => ?_⟩, fun hp => ?_⟩
  · obtain ⟨b, o, ha⟩ := h3 (by omega)
    exact ⟨b, o + k * 2, cut_addr ha (by omega)⟩
  · rw [List.length_drop] at hp
    obtain ⟨b, o, ha, hc⟩ := hm (by omega)
    refine ⟨b, o + k * 2, cut_addr ha (by omega), fun j hj => ?_⟩
    rw [List.length_drop] at hj
    have := hc (k + j) (by omega)
    rw [List.getElem_drop, show o + k * 2 + j * 2 = o + (k + j) * 2 by omega]
    exact this
theorem RdE.take {w : World} {A : Option Addr} {c : Nat} {l : List En} (h : RdE w (.slice A l.length c) l) (k : Nat) (hk : k ≤ l.length) : RdE w (.slice A k c) (l.take k) := by
  obtain ⟨A', c', e, ⟨h1, h2, h3⟩, hm⟩ := h
  injection e with e1 _ e2
  subst e1 e2
  refine ⟨A, c, by rw [List.length_take, Nat.min_eq_left hk], ⟨by rw [List.length_take]; omega, h2, h3⟩, fun hp => ?_⟩
  rw [List.length_take] at hp
  obtain ⟨b, o, ha, hc⟩ := hm (by omega)
  refine ⟨b, o, ha, fun j hj => ?_⟩
  rw [List.length_take] at hj
  have := hc j (by omega)
  rw [List.getElem_take]
  exact this

theorem run_append_E (W w : World) (v x : Value) (l m : List En) (hown : OwnE W w v l) (hx : SrcE W w x m) (hb : Below W.heap.size W w) (hlen : l.length + m.length ≤ 100000) (ty : TypeId) :
    ∃ v' w', (Builtin.append_ #[28, 28] ty #[v, x]).run Tryz.prog w = .ok v' w' ∧ OwnE W w' v' (l ++ m) ∧ Below W.heap.size W w' := by
  obtain ⟨cs, ho, hc⟩ := hown
  obtain ⟨ds, hd, hx⟩ := hx
  obtain ⟨v', w', a1, a2, a3⟩ := run_append_src (P := Tryz.prog) w W.heap.size 28 ty 51 _ 2 32 Tryz.underlying28 entryInfo rfl (by omega) v l.length cs ho x m.length ds hx (by simp only [maxLen]; omega) (by omega) hb.size
  exact ⟨v', w', a1, ⟨_, by rw [List.length_append]; exact a2, hc.append hd⟩, hb.grown a3 hb.size (ownBlock_base ho)⟩
theorem wpList_append_E {w : World} {ops : Array Oper} {rest : List Oper} {o : Oper} {a : Act} {Q : Exit → Act → World → Prop} (hgd : o.guard = none) (s x : Operand)
    (ho : o.op = .call { callee := .builtin .append, args := #[s, x], argTypes := #[28, 28] }) (W : World) (l m : List En)
    (hown : OwnE W w (a.eval s) l) (hx : SrcE W w (a.eval x) m) (hb : Below W.heap.size W w) (hlen : l.length + m.length ≤ 100000)
    (h : ∀ v' w', OwnE W w' v' (l ++ m) → Below W.heap.size W w' → wpList Tryz.prog ops Q rest (a.put o.dst v') w') : wpList Tryz.prog ops Q (o :: rest) a w := by
  refine wpList_plain hgd fun K hK => ?_
  obtain ⟨v', w', hrun, r1, r2⟩ := run_append_E W w _ _ l m hown hx hb hlen o.type
  unfold Oper.wp
  simp [execOp, ho, resolve, invoke, builtin, hrun, Result.andThen]
  exact hK _ _ (h v' w' r1 r2)
theorem OwnE.alloc {W w : World} {v : Value} {l : List En} (h : OwnE W w v l) (o : Obj) : OwnE W (w.alloc o) v l := let ⟨cs, h1, h2⟩ := h; ⟨cs, h1.alloc o, h2⟩
theorem OwnE.drew {W w : World} {v : Value} {l : List En} (h : OwnE W w v l) : OwnE W w.drew v l := h
theorem OwnE.drewN {W w : World} {v : Value} {l : List En} (h : OwnE W w v l) (n : Nat) : OwnE W (w.drewN n) v l := h
theorem OwnE.lit {W w : World} (hb : W.heap.size ≤ w.heap.size) {g : Nat} (hg : g = w.heap.size) : OwnE W (w.alloc (.cells #[] 51)) (.slice (some ⟨g, 0, none⟩) 0 0) [] := by
  subst hg; exact ⟨[], World.ownsRow_lit w #[] 0 hb (by simp [maxLen]) (by simp), rfl⟩
theorem OwnE.below {W w w' : World} {v : Value} {l : List En} (h : OwnE W w v l) (hb : Below w.heap.size w w') : OwnE W w' v l := by
  obtain ⟨cs, ⟨h1, h2⟩, h3⟩ := h
  refine ⟨cs, ⟨h1, ?_⟩, h3⟩
  rcases h2 with h2 | ⟨g, cap, cur, q1, q2, q3, q4⟩
  · exact .inl h2
  · exact .inr ⟨g, cap, cur, q1, q2, (hb.block g (Array.getElem?_eq_some_iff.1 q3).1).trans q3, q4⟩
end Go.Proofs.YtjokcagggmjgmaaGreat
/-! Ref06 -/
namespace Go.Proofs.YtjokcagggmjgmaaGreat
open Go.RowKit
set_option linter.unusedVariables false

/-- the lists that are walked here -/
structure EtS (k : Nat) (l : List En) : Prop where
  et : Et k l
  k40 : k ≤ 40
  short : l.length ≤ 1000
structure PtS (k : Nat) (p : List Nat) : Prop where
  len : p.length = k
  ok : ∀ x ∈ p, x < 2 ^ 64

set_option maxRecDepth 100000 in
set_option maxHeartbeats 1000000 in
theorem rPlace_any (k : Nat) (l : List En) (p : List Nat) (v vp : Value) (w : World) (hv : RdE w v l) (hp : RdU w vp (pti p)) (hl : EtS k l) (hs : PtS k p) :
    Calls Tryz.prog 71 #[v, vp] w fun e w' => e = .returned (.tuple #[.int .i64 (Od.place En.key (pkey p) l).1, .bool (Od.place En.key (pkey p) l).2]) ∧ Below w.heap.size w w' := by
  obtain ⟨A, c, rfl, hcap, ga0⟩ := hv
  clear hcap
  have HD := Lib.hid (And.intro hl hs)
  have HG := Lib.hid ga0
  have HP := Lib.hid hp
  clear hl hs ga0 hp
  go_enter Tryz.func71, Tryz.ntmps71
  go_wp2_with fail
  go_loopw [6] (fun i wr => ∃ j : Nat, j ≤ l.length ∧ i = .int .i64 j ∧ (∀ q (hq : q < l.length), q < j → En.key l[q] < pkey p) ∧ Below w.heap.size w wr) (fun i _ => l.length - (intOf i).toNat)
  case atStart => exact ⟨0, Nat.zero_le _, rfl, fun q hq h => by omega, (by repeat (first | exact Below.refl _ _ | assumption | (refine Below.drew ?_) | (refine below_drewN' ?_ _) | (refine below_alloc' ?_ _)))⟩
  case round =>
    obtain ⟨j, hj, rfl, hall, hb⟩ := hrel
    have HB := Lib.hid hb
    have HA := Lib.hid hall
    clear hb hall
    by_cases hlt : j < l.length
    · have h3 : (j : Int) < l.length := by omega
      have h5 : (0 : Int) ≤ (j : Int) := by omega
      obtain ⟨b, o, rfl, ga⟩ := HG.out (by omega)
      obtain ⟨v0, c0, hv0, c1⟩ := (ga j hlt).keep (Below.keeps HB.out)
      clear ga c1
      have hblt : b < wr.heap.size := World.block_lt_of_cell? wr _ c0
      have HV := Lib.hid hv0
      have HW := Lib.hid (show wrap64 ((j : Int) + 1) = ((j + 1 : Nat) : Int) by have := HD.out.1.short; unfold wrap64; omega)
      have HC := Lib.hid (fun (w' : World) (h1 : RdU w' v0 (pti l[j].p)) (h2 : RdU w' vp (pti p)) => rCmp_any l[j].p p v0 vp w' h1 h2 (by rw [HD.out.1.et.len _ (List.getElem_mem hlt), HD.out.2.len]) (by rw [HD.out.1.et.len _ (List.getElem_mem hlt)]; exact HD.out.1.k40) (HD.out.1.et.ok _ (List.getElem_mem hlt)) HD.out.2.ok)
      obtain ⟨A0, cc, e0, _⟩ := RdU.point hv0
      subst e0
      clear hv0
      have h := HB.out
      by_cases hz : Zb.cmp l[j].p p < 0
      · have HN := Lib.hid (show ∀ q (hq : q < l.length), q < j + 1 → En.key l[q] < pkey p from fun q hq hqj => by
          by_cases e : q < j
          · exact HA.out q hq e
          · obtain rfl : q = j := by omega
            exact (cmp_neg _ _).1 hz)
        generalize Zb.cmp l[j].p p = z at *
        have hz' : ¬ z ≥ 0 := by omega
        clear hz
        go_wp2_with fail
        refine (HC.out _ (RdU.below HV.out (by repeat (first | exact Below.refl _ _ | assumption | (refine Below.drew ?_) | (refine below_drewN' ?_ _) | (refine below_alloc' ?_ _)))) (RdU.below HP.out (by repeat (first | exact Below.refl _ _ | assumption | (refine Below.drew ?_) | (refine below_drewN' ?_ _) | (refine below_alloc' ?_ _))))).mono ?_
        rintro e w' ⟨rfl, rfl⟩
        go_wp2_with fail
        go_roundw
        case rel => exact ⟨j + 1, by omega, by rw [HW.out], HN.out, (by repeat (first | exact Below.refl _ _ | assumption | (refine Below.drew ?_) | (refine below_drewN' ?_ _) | (refine below_alloc' ?_ _)))⟩
        case measure => rw [intOf_of' HW.out, intOf_of' rfl]; omega
      · have HN := Lib.hid (Od.place_at (key := En.key) (n := pkey p) j hlt (fun q hq h => HA.out q hq h) (fun h => hz ((cmp_neg _ _).2 h)))
        have HZ := Lib.hid (show (Zb.cmp l[j].p p == 0) = decide (En.key l[j] = pkey p) by
          apply bool_ext
          simp only [beq_iff_eq, decide_eq_true_eq]
          exact cmp_zero _ _)
        generalize Zb.cmp l[j].p p = z at *
        have hz' : z ≥ 0 := by omega
        clear hz
        go_wp2_with fail
        refine (HC.out _ (RdU.below HV.out (by repeat (first | exact Below.refl _ _ | assumption | (refine Below.drew ?_) | (refine below_drewN' ?_ _) | (refine below_alloc' ?_ _)))) (RdU.below HP.out (by repeat (first | exact Below.refl _ _ | assumption | (refine Below.drew ?_) | (refine below_drewN' ?_ _) | (refine below_alloc' ?_ _))))).mono ?_
        rintro e w' ⟨rfl, rfl⟩
        go_wp2_with fail
        go_ret2
        exact ⟨by rw [HN.out, ← HZ.out] <;> rfl, (by repeat (first | exact Below.refl _ _ | assumption | (refine Below.drew ?_) | (refine below_drewN' ?_ _) | (refine below_alloc' ?_ _)))⟩
    · have HN := Lib.hid (Od.place_end (key := En.key) (n := pkey p) (l := l) (fun q hq => HA.out q hq (by omega)))
      have h := HB.out
      go_wp2_with fail
      go_ret2
      exact ⟨by rw [HN.out] <;> rfl, (by repeat (first | exact Below.refl _ _ | assumption | (refine Below.drew ?_) | (refine below_drewN' ?_ _) | (refine below_alloc' ?_ _)))⟩

theorem rGet_any (k : Nat) (l : List En) (p : List Nat) (v vp : Value) (w : World) (hv : RdE w v l) (hp : RdU w vp (pti p)) (hl : EtS k l) (hs : PtS k p) :
    Calls Tryz.prog 61 #[v, vp] w fun e w' => e = .returned (.tuple #[.int .u64 ((getE l p).getD 0 : Nat), .bool (getE l p).isSome]) ∧ Below w.heap.size w w' := by
  have HL := Lib.hid (show getE l p = if (Od.place En.key (pkey p) l).2 then (l[(Od.place En.key (pkey p) l).1]?).map (·.v) else none by
    unfold getE; rw [Od.look_place hl.et.asc]; split <;> rfl)
  have HP := Lib.hid (rPlace_any k l p v vp w hv hp hl hs)
  obtain ⟨A, c, rfl, hcap, ga0⟩ := hv
  cases hb : (Od.place En.key (pkey p) l).2 with
  | false =>
    rw [hb] at HP HL
    generalize (Od.place En.key (pkey p) l).1 = i at *
    rw [show getE l p = none from HL.out]
    clear ga0 hcap hp hl hs hb HL
    go_enter Tryz.func61, Tryz.ntmps61
    go_wp2_with fail
    refine HP.out.mono ?_
    rintro e w' ⟨rfl, hb⟩
    go_wp2_with fail
    go_ret2
    exact ⟨rfl, hb⟩
  | true =>
    obtain ⟨hi, _⟩ := Od.place_lt hb
    rw [hb] at HP HL
    generalize (Od.place En.key (pkey p) l).1 = i at *
    have HE := Lib.hid (show getE l p = some l[i].v by rw [HL.out]; simp [hi])
    obtain ⟨b, o, rfl, ga⟩ := ga0 (by omega)
    have HC := Lib.hid (ga i hi)
    have h3 : (i : Int) < l.length := by omega
    have h5 : (0 : Int) ≤ (i : Int) := by omega
    rw [HE.out]
    clear ga0 ga hcap hp hl hs hb HL HE
    go_enter Tryz.func61, Tryz.ntmps61
    go_wp2_with fail
    refine HP.out.mono ?_
    rintro e w' ⟨rfl, hb⟩
    obtain ⟨v0, c0, hv0, c1⟩ := HC.out.keep (Below.keeps hb)
    clear c0 hv0
    go_wp2_with fail
    go_ret2
    exact ⟨rfl, hb⟩
end Go.Proofs.YtjokcagggmjgmaaGreat
/-! Ref06b -/
namespace Go.Proofs.YtjokcagggmjgmaaGreat
open Go.RowKit
set_option linter.unusedVariables false
set_option linter.unusedSimpArgs false

theorem RdE.drop' {w : World} {b o c : Nat} {l : List En} (h : RdE w (.slice (some ⟨b, o, none⟩) l.length c) l) (k : Nat) (hk : k ≤ l.length) :
    RdE w (.slice (if c = k then some ⟨b, o, none⟩ else some ⟨b, o + k * 2, none⟩) (l.length - k) (c - k)) (l.drop k) := by
  have := h.drop k hk
  rw [show (if c = k then some (⟨b, o, none⟩ : Addr) else some ⟨b, o + k * 2, none⟩) = (if c = k then some ⟨b, o, none⟩ else (some (⟨b, o, none⟩ : Addr)).map (·.add (k * 2))) by
    split
    · rfl
    · simp only [Option.map_some, Addr.add]
      split
      · rename_i h0; rw [h0]; rfl
      · rfl]
  exact this
/-- a slice of entries is handed back -/
def RetE (W : World) (l : List En) (e : Ending) (w' : World) : Prop := ∃ v, e = .returned v ∧ RdE w' v l ∧ Below W.heap.size W w'
theorem RetE.mk {W w' : World} {l : List En} {v : Value} (h : RdE w' v l) (hb : Below W.heap.size W w') : RetE W l (.returned v) w' := ⟨v, rfl, h, hb⟩

theorem run_append_E0 (W w : World) (v x : Value) (m : List En) (g : Nat) (hg : v = .slice (some ⟨g, 0, none⟩) 0 0) (hown : OwnE W w v []) (hx : SrcE W w x m) (hb : Below W.heap.size W w) (hlen : m.length ≤ 100000) (ty : TypeId) :
    ∃ v' w', (Builtin.append_ #[28, 28] ty #[v, x]).run Tryz.prog w = .ok v' w' ∧ OwnE W w' v' m ∧ Below w.heap.size w w' := by
  subst hg
  obtain ⟨cs, ho, hc⟩ := hown
  obtain rfl : cs = [] := hc
  obtain ⟨ds, hd, hx⟩ := hx
  obtain ⟨v', w', a1, a2, a3⟩ := run_append_lit (P := Tryz.prog) w W.heap.size 28 ty 51 _ 2 32 Tryz.underlying28 entryInfo rfl (by omega) g ho x m.length ds hx (by simp only [maxLen]; omega) (by omega) hb.size
  exact ⟨v', w', a1, ⟨_, a2, hd⟩, a3⟩

set_option maxRecDepth 8000 in
set_option maxHeartbeats 1000000 in
theorem rDel_any (k : Nat) (l : List En) (p : List Nat) (v vp : Value) (w : World) (hv : RdE w v l) (hp : RdU w vp (pti p)) (hl : EtS k l) (hs : PtS k p) :
    Calls Tryz.prog 33 #[v, vp] w fun e w' => RetE w (delE p l) e w' := by
  have HP := Lib.hid (rPlace_any k l p v vp w hv hp hl hs)
  have HL := Lib.hid (Od.del_place (key := En.key) (n := pkey p) hl.et.asc)
  have HV := Lib.hid hv
  obtain ⟨A, c, rfl, hcap, ga0⟩ := hv
  cases hb : (Od.place En.key (pkey p) l).2 with
  | false =>
    rw [hb] at HP HL
    generalize (Od.place En.key (pkey p) l).1 = i at *
    have HE := Lib.hid (show delE p l = l from HL.out)
    clear ga0 hcap hp hl hs hb HL
    go_enter Tryz.func33, Tryz.ntmps33
    go_wp2_with fail
    refine HP.out.mono ?_
    rintro e w' ⟨rfl, hb⟩
    go_wp2_with fail
    go_ret
    rw [HE.out]
    exact RetE.mk (HV.out.below hb) hb
  | true =>
    obtain ⟨hq, hqk⟩ := Od.place_lt hb
    clear hqk
    rw [hb] at HP HL
    generalize (Od.place En.key (pkey p) l).1 = q at *
    have HE := Lib.hid (show delE p l = l.take q ++ l.drop (q + 1) from HL.out)
    obtain ⟨bk, ofs, rfl, ga⟩ := ga0 (by omega)
    have HN := Lib.hid (And.intro hl.short hq)
    have hw : IntKind.i64.wrap ((q : Int) + 1) = ((q + 1 : Nat) : Int) := IntWalk.i64_in _ (by have := hl.short; omega)
    have HT := Lib.hid (HV.out.take q (by omega))
    have HU := Lib.hid (HV.out.drop' (q + 1) (by omega))
    have h3 : q ≤ c := by omega
    have h4 : (0 : Int) ≤ (q : Int) + 1 := by omega
    have h5 : (q : Int) + 1 ≤ (l.length : Int) := by omega
    have h6 : q + 1 ≤ c := by omega
    clear ga0 ga hcap hp hl hs hb HL hq
    go_enter Tryz.func33, Tryz.ntmps33
    go_wp2_with fail
    refine HP.out.mono ?_
    rintro e w' ⟨rfl, hb⟩
    have HS := Lib.hid hb
    go_wp2_with fail
    refine wp_region_vals 9 [fun v9 w9 => OwnE w w9 v9 [] ∧ ∃ g, v9 = .slice (some ⟨g, 0, none⟩) 0 0,
      fun v _ => v = .slice (some ⟨bk, ofs, none⟩) l.length c,
      fun v _ => v = .int .i64 (q : Nat),
      fun v9 w9 => RdE w v9 (l.take q),
      fun v9 w9 => OwnE w w9 v9 (l.take q),
      fun v _ => v = .slice (some ⟨bk, ofs, none⟩) l.length c,
      fun v _ => v = .int .i64 (q : Nat),
      fun v _ => v = .int .i64 ((q + 1 : Nat) : Int),
      fun v9 w9 => RdE w v9 (l.drop (q + 1))]
      (by kernel_rfl) (by kernel_rfl) (by kernel_rfl) (by kernel_rfl) ?_ ?_ ?_
    · intro V hV v w1 w2 h hb
      simp only [List.mem_cons, List.not_mem_nil, or_false] at hV
      rcases hV with rfl | rfl | rfl | rfl | rfl | rfl | rfl | rfl | rfl
      all_goals first | exact h | (first | exact ⟨h.1.below hb, h.2⟩ | exact OwnE.below h hb)
    · intro i o hi ho
      match i, hi with
      | 0, _ =>
      obtain rfl := Option.some.inj ho
      intro a1 w1 K hk hK
      simp [Region.wanted, Oper.wp, Act.eval, go_sem, hw, h3, h4, h5, h6]
      exact hK _ _ (by repeat (first | exact Below.refl _ _ | assumption | (refine Below.drew ?_) | (refine below_drewN' ?_ _) | (refine below_alloc' ?_ _))) ⟨OwnE.lit (Nat.le_trans HS.out.size hk.ext.size) rfl, _, rfl⟩
      | 1, _ =>
      obtain rfl := Option.some.inj ho
      intro a1 w1 K hk hK
      have e0 : a1.tmps.getD 0 undef = .slice (some ⟨bk, ofs, none⟩) l.length c := hk.same 0 (by simp)
      simp [Region.wanted, Oper.wp, Act.eval, go_sem, e0, hw, h3, h4, h5, h6]
      exact hK _ _ (Below.refl _ _) rfl
      | 2, _ =>
      obtain rfl := Option.some.inj ho
      intro a1 w1 K hk hK
      have e5 : a1.tmps.getD 5 undef = .int .i64 (q : Nat) := hk.same 5 (by simp)
      simp [Region.wanted, Oper.wp, Act.eval, go_sem, e5, hw, h3, h4, h5, h6]
      exact hK _ _ (Below.refl _ _) rfl
      | 3, _ =>
      obtain rfl := Option.some.inj ho
      intro a1 w1 K hk hK
      have d17 : a1.tmps.getD 17 undef = .slice (some ⟨bk, ofs, none⟩) l.length c := hk.deps ⟨1, .data⟩ (by simp) rfl _ _ rfl rfl
      have d18 : a1.tmps.getD 18 undef = .int .i64 (q : Nat) := hk.deps ⟨2, .data⟩ (by simp) rfl _ _ rfl rfl
      simp [Region.wanted, Oper.wp, Act.eval, go_sem, d17, d18, hw, h3, h4, h5, h6]
      exact hK _ _ (by repeat (first | exact Below.refl _ _ | assumption | (refine Below.drew ?_) | (refine below_drewN' ?_ _) | (refine below_alloc' ?_ _))) HT.out
      | 4, _ =>
      obtain rfl := Option.some.inj ho
      intro a1 w1 K hk hK
      have D16 : OwnE w w1 (a1.tmps.getD 16 undef) [] ∧ ∃ g, (a1.tmps.getD 16 undef) = .slice (some ⟨g, 0, none⟩) 0 0 := hk.deps ⟨0, .data⟩ (by simp) rfl _ _ rfl rfl
      have D19 : RdE w (a1.tmps.getD 19 undef) (l.take q) := hk.deps ⟨3, .data⟩ (by simp) rfl _ _ rfl rfl
      obtain ⟨D16, g, D16'⟩ := D16
      have hbe : Below w.heap.size w w1 := below_trans HS.out (below_trans (by repeat (first | exact Below.refl _ _ | assumption | (refine Below.drew ?_) | (refine below_drewN' ?_ _) | (refine below_alloc' ?_ _))) hk.ext)
      obtain ⟨v', w', hrun, r1, r2⟩ := run_append_E0 w w1 _ _ _ g D16' D16 (D19.src hbe) hbe (by have := HN.out; rw [List.length_take]; omega) 28
      split
      · exact wp_append_run (s := .tmp 16) (x := .tmp 19) rfl hrun (hK _ _ r2 r1)
      · rename_i hw0; simp [Region.wanted] at hw0
      | 5, _ =>
      obtain rfl := Option.some.inj ho
      intro a1 w1 K hk hK
      have e0 : a1.tmps.getD 0 undef = .slice (some ⟨bk, ofs, none⟩) l.length c := hk.same 0 (by simp)
      simp [Region.wanted, Oper.wp, Act.eval, go_sem, e0, hw, h3, h4, h5, h6]
      exact hK _ _ (Below.refl _ _) rfl
      | 6, _ =>
      obtain rfl := Option.some.inj ho
      intro a1 w1 K hk hK
      have e5 : a1.tmps.getD 5 undef = .int .i64 (q : Nat) := hk.same 5 (by simp)
      simp [Region.wanted, Oper.wp, Act.eval, go_sem, e5, hw, h3, h4, h5, h6]
      exact hK _ _ (Below.refl _ _) rfl
      | 7, _ =>
      obtain rfl := Option.some.inj ho
      intro a1 w1 K hk hK
      have d22 : a1.tmps.getD 22 undef = .int .i64 (q : Nat) := hk.deps ⟨6, .data⟩ (by simp) rfl _ _ rfl rfl
      simp [Region.wanted, Oper.wp, Act.eval, go_sem, d22, hw, h3, h4, h5, h6]
      exact hK _ _ (Below.refl _ _) rfl
      | 8, _ =>
      obtain rfl := Option.some.inj ho
      intro a1 w1 K hk hK
      have d21 : a1.tmps.getD 21 undef = .slice (some ⟨bk, ofs, none⟩) l.length c := hk.deps ⟨5, .data⟩ (by simp) rfl _ _ rfl rfl
      have d23 : a1.tmps.getD 23 undef = .int .i64 ((q + 1 : Nat) : Int) := hk.deps ⟨7, .data⟩ (by simp) rfl _ _ rfl rfl
      simp [Region.wanted, Oper.wp, Act.eval, go_sem, d21, d23, hw, h3, h4, h5, h6]
      exact hK _ _ (by repeat (first | exact Below.refl _ _ | assumption | (refine Below.drew ?_) | (refine below_drewN' ?_ _) | (refine below_alloc' ?_ _))) HU.out
    · intro vs w3 hl hb3 hv
      match vs, hl with
      | [v0, v1, v2, v3, v4, v5, v6, v7, v8], _ =>
      have q0 : OwnE w w3 v0 [] ∧ ∃ g, v0 = .slice (some ⟨g, 0, none⟩) 0 0 := hv 0 (by omega)
      obtain rfl : v1 = .slice (some ⟨bk, ofs, none⟩) l.length c := hv 1 (by omega)
      obtain rfl : v2 = .int .i64 (q : Nat) := hv 2 (by omega)
      have q3 : RdE w v3 (l.take q) := hv 3 (by omega)
      have q4 : OwnE w w3 v4 (l.take q) := hv 4 (by omega)
      obtain rfl : v5 = .slice (some ⟨bk, ofs, none⟩) l.length c := hv 5 (by omega)
      obtain rfl : v6 = .int .i64 (q : Nat) := hv 6 (by omega)
      obtain rfl : v7 = .int .i64 ((q + 1 : Nat) : Int) := hv 7 (by omega)
      have q8 : RdE w v8 (l.drop (q + 1)) := hv 8 (by omega)
      clear hv
      simp only [putAll, List.take_succ_cons, List.take_zero, List.drop_succ_cons, List.drop_zero, Act.put, List.setIfInBounds_toArray, List.set_cons_succ, List.set_cons_zero]
      refine wpList_append_E rfl (.tmp 20) (.tmp 24) rfl w (l.take q) (l.drop (q + 1)) q4 (q8.src (below_trans HS.out hb3)) (below_trans HS.out hb3) (by have := HN.out; rw [List.length_take, List.length_drop]; omega) ?_
      intro v' w' hown hbw
      go_wp2_with fail
      go_ret
      rw [HE.out]
      exact RetE.mk (hown.rd hbw) hbw

theorem EtS.del {k : Nat} {l : List En} (h : EtS k l) (p : List Nat) : EtS k (delE p l) := ⟨h.et.del p, h.k40, Nat.le_trans Od.del_length h.short⟩
set_option maxRecDepth 8000 in
set_option maxHeartbeats 1000000 in
theorem rPut_any (k : Nat) (l : List En) (p : List Nat) (x : Nat) (v vp : Value) (w : World) (hv : RdE w v l) (hp : RdU w vp (pti p)) (hl : EtS k l) (hs : PtS k p) :
    Calls Tryz.prog 30 #[v, vp, .int .u64 (x : Nat)] w fun e w' => RetE w (insE p x l) e w' := by
  have HD := Lib.hid (rDel_any k l p v vp w hv hp hl hs)
  have HQ := Lib.hid (fun (v : Value) (w : World) (hv : RdE w v (delE p l)) (hp : RdU w vp (pti p)) => rPlace_any k (delE p l) p v vp w hv hp (hl.del p) hs)
  have HE := Lib.hid (show insE p x l = (delE p l).take (Od.place En.key (pkey p) (delE p l)).1 ++ ⟨p, x⟩ :: (delE p l).drop (Od.place En.key (pkey p) (delE p l)).1 from (Od.ins_place (key := En.key) (x := ⟨p, x⟩) hl.et.asc).trans (by rw [List.append_assoc]; rfl))
  have HN := Lib.hid (And.intro (hl.del p).short (Od.place_le En.key (pkey p) (delE p l)))
  have HP := Lib.hid hp
  obtain ⟨A0, cc, rfl, hx0⟩ := RdU.point hp
  clear hx0
  generalize (Od.place En.key (pkey p) (delE p l)).1 = q at *
  generalize (Od.place En.key (pkey p) (delE p l)).2 = fl at *
  generalize delE p l = m at *
  clear hl hs hv hp
  go_enter Tryz.func30, Tryz.ntmps30
  go_wp2_with fail
  refine HD.out.mono ?_
  rintro e w1 ⟨v1, rfl, hv1, hb1⟩
  have HB := Lib.hid hb1
  go_wp2_with fail
  refine (HQ.out _ _ hv1 (HP.out.below HB.out)).mono ?_
  rintro e w2 ⟨rfl, hb2⟩
  have HB2 := Lib.hid (HB.out.trans (hb2.mono HB.out.size))
  have HV := Lib.hid (hv1.below hb2)
  have HP2 := Lib.hid (HP.out.below HB2.out)
  clear hb2
  obtain ⟨A, c, rfl, hcap, hx⟩ := hv1
  have h3 : q ≤ c := by have := HN.out; omega
  have h4 : (q : Int) ≤ (m.length : Int) := by have := HN.out; omega
  by_cases hc : 0 < c
  · obtain ⟨bk, ofs, rfl⟩ := hcap.2.2 hc
    clear hcap hx hc hb1
    have HT := Lib.hid (HV.out.take q HN.out.2)
    have HU := Lib.hid (HV.out.drop' q HN.out.2)
    by_cases hcq : c = q
    · obtain rfl : q = c := hcq.symm
      rw [if_pos rfl, Nat.sub_self] at HU
      go_wp2_with ((at_builtin; refine wpList_append_E rfl (.tmp 19) (.tmp 22) rfl w2 [] (m.take q) ?_ ?_ ?_ ?_ ?_))
      · exact OwnE.lit (Nat.le_refl _) rfl
      · exact HT.out.src (by repeat (first | exact Below.refl _ _ | assumption | (refine Below.drew ?_) | (refine below_drewN' ?_ _) | (refine below_alloc' ?_ _)))
      · exact (by repeat (first | exact Below.refl _ _ | assumption | (refine Below.drew ?_) | (refine below_drewN' ?_ _) | (refine below_alloc' ?_ _)))
      · have := HN.out; simp; try omega
      intro v3 w3 hown3 hb3
      have HB3 := Lib.hid hb3
      clear hb3
      go_wp2_with ((at_builtin; refine wpList_append_E rfl (.tmp 23) (.tmp 27) rfl w2 (m.take q) [⟨p, x⟩] ?_ ?_ ?_ ?_ ?_))
      · exact hown3.alloc _
      · exact SrcE.one (by simp [go_sem]) HP2.out (by simp [go_sem])
      · have h := HB3.out; exact (by repeat (first | exact Below.refl _ _ | assumption | (refine Below.drew ?_) | (refine below_drewN' ?_ _) | (refine below_alloc' ?_ _)))
      · have := HN.out; simp; try omega
      intro v4 w4 hown4 hb4
      have HB4 := Lib.hid hb4
      clear hb4
      go_wp2_with ((at_builtin; refine wpList_append_E rfl (.tmp 29) (.tmp 32) rfl w2 (m.take q ++ [⟨p, x⟩]) (m.drop q) ?_ ?_ ?_ ?_ ?_))
      · exact hown4
      · exact HU.out.src HB4.out
      · exact HB4.out
      · have := HN.out; simp; try omega
      intro v5 w5 hown5 hb5
      go_wp2_with fail
      go_ret
      rw [HE.out]
      exact RetE.mk (by simpa using hown5.rd hb5) (HB2.out.trans (hb5.mono HB2.out.size))
    · rw [if_neg hcq] at HU
      go_wp2_with ((at_builtin; refine wpList_append_E rfl (.tmp 19) (.tmp 22) rfl w2 [] (m.take q) ?_ ?_ ?_ ?_ ?_))
      · exact OwnE.lit (Nat.le_refl _) rfl
      · exact HT.out.src (by repeat (first | exact Below.refl _ _ | assumption | (refine Below.drew ?_) | (refine below_drewN' ?_ _) | (refine below_alloc' ?_ _)))
      · exact (by repeat (first | exact Below.refl _ _ | assumption | (refine Below.drew ?_) | (refine below_drewN' ?_ _) | (refine below_alloc' ?_ _)))
      · have := HN.out; simp; try omega
      intro v3 w3 hown3 hb3
      have HB3 := Lib.hid hb3
      clear hb3
      go_wp2_with ((at_builtin; refine wpList_append_E rfl (.tmp 23) (.tmp 27) rfl w2 (m.take q) [⟨p, x⟩] ?_ ?_ ?_ ?_ ?_))
      · exact hown3.alloc _
      · exact SrcE.one (by simp [go_sem]) HP2.out (by simp [go_sem])
      · have h := HB3.out; exact (by repeat (first | exact Below.refl _ _ | assumption | (refine Below.drew ?_) | (refine below_drewN' ?_ _) | (refine below_alloc' ?_ _)))
      · have := HN.out; simp; try omega
      intro v4 w4 hown4 hb4
      have HB4 := Lib.hid hb4
      clear hb4
      go_wp2_with ((at_builtin; refine wpList_append_E rfl (.tmp 29) (.tmp 32) rfl w2 (m.take q ++ [⟨p, x⟩]) (m.drop q) ?_ ?_ ?_ ?_ ?_))
      · exact hown4
      · exact HU.out.src HB4.out
      · exact HB4.out
      · have := HN.out; simp; try omega
      intro v5 w5 hown5 hb5
      go_wp2_with fail
      go_ret
      rw [HE.out]
      exact RetE.mk (by simpa using hown5.rd hb5) (HB2.out.trans (hb5.mono HB2.out.size))
  · obtain rfl : c = 0 := by omega
    obtain rfl : m = [] := List.eq_nil_of_length_eq_zero (by omega)
    obtain rfl : q = 0 := by omega
    clear hcap hx hc hb1 h3 h4
    simp only [List.length_nil] at *
    go_wp2_with ((at_builtin; refine wpList_append_E rfl (.tmp 19) (.tmp 22) rfl w2 [] (([] : List En)) ?_ ?_ ?_ ?_ ?_))
    · exact OwnE.lit (Nat.le_refl _) rfl
    · exact (RdE.nil w2 A 0 (by simp [maxLen]) (fun h => absurd h (by omega))).src (by repeat (first | exact Below.refl _ _ | assumption | (refine Below.drew ?_) | (refine below_drewN' ?_ _) | (refine below_alloc' ?_ _)))
    · exact (by repeat (first | exact Below.refl _ _ | assumption | (refine Below.drew ?_) | (refine below_drewN' ?_ _) | (refine below_alloc' ?_ _)))
    · have := HN.out; simp; try omega
    intro v3 w3 hown3 hb3
    have HB3 := Lib.hid hb3
    clear hb3
    go_wp2_with ((at_builtin; refine wpList_append_E rfl (.tmp 23) (.tmp 27) rfl w2 (([] : List En)) [⟨p, x⟩] ?_ ?_ ?_ ?_ ?_))
    · exact hown3.alloc _
    · exact SrcE.one (by simp [go_sem]) HP2.out (by simp [go_sem])
    · have h := HB3.out; exact (by repeat (first | exact Below.refl _ _ | assumption | (refine Below.drew ?_) | (refine below_drewN' ?_ _) | (refine below_alloc' ?_ _)))
    · have := HN.out; simp; try omega
    intro v4 w4 hown4 hb4
    have HB4 := Lib.hid hb4
    clear hb4
    go_wp2_with ((at_builtin; refine wpList_append_E rfl (.tmp 29) (.tmp 32) rfl w2 (([] : List En) ++ [⟨p, x⟩]) (([] : List En)) ?_ ?_ ?_ ?_ ?_))
    · exact hown4
    · exact (RdE.nil w2 A 0 (by simp [maxLen]) (fun h => absurd h (by omega))).src HB4.out
    · exact HB4.out
    · have := HN.out; simp; try omega
    intro v5 w5 hown5 hb5
    go_wp2_with fail
    go_ret
    rw [HE.out]
    exact RetE.mk (by simpa using hown5.rd hb5) (HB2.out.trans (hb5.mono HB2.out.size))
end Go.Proofs.YtjokcagggmjgmaaGreat
/-! TrF -/
namespace Go
theorem getD_bool {t : Array Value} {d : Nat} {b : Bool} (h : t.getD d undef = .bool b) : t[d]? = some (.bool b) := by
  rw [Array.getD_eq_getD_getElem?] at h
  cases hx : t[d]? with
  | none => rw [hx] at h; cases h
  | some v => rw [hx] at h; simp only [Option.getD_some] at h; rw [h]
end Go
namespace Go.Proofs.YtjokcagggmjgmaaGreat
open Go.RowKit
set_option linter.unusedVariables false
set_option linter.unusedSimpArgs false

/-- an act -/
structure Ac where
  del : Bool
  p : List Nat
  v : Nat
deriving Inhabited
/-- what an act makes of a list -/
def stepL (k : Nat) (l : List En) (a : Ac) : List En := if a.p.length = k then (if a.del then delE a.p l else insE a.p a.v l) else l
def Ac.Ok (a : Ac) : Prop := a.p.length ≤ 40 ∧ (∀ c ∈ a.p, c < 2 ^ 64) ∧ a.v < 2 ^ 64
theorem Et.step {k : Nat} {l : List En} (h : Et k l) (a : Ac) (ha : a.Ok) : Et k (stepL k l a) := by
  unfold stepL
  split
  · split
    · exact h.del _
    · exact h.ins _ (by assumption) ha.2.1
  · exact h
theorem step_len (k : Nat) (l : List En) (a : Ac) : (stepL k l a).length ≤ l.length + 1 := by
  unfold stepL
  split
  · split
    · exact Nat.le_trans Od.del_length (Nat.le_succ _)
    · exact Od.ins_length
  · omega
theorem del_absent {l : List En} {p : List Nat} (h : getE l p = none) : delE p l = l := by
  unfold getE at h
  have h' : Od.look En.key l (pkey p) = none := by
    cases e : Od.look En.key l (pkey p) with
    | none => rfl
    | some x => rw [e] at h; cases h
  have h2 := Od.look_none (key := En.key) h'
  clear h h'
  unfold delE
  induction l with
  | nil => rfl
  | cons x l ih => unfold Od.del; rw [if_neg (h2 x (by simp))]; rw [ih fun y hy => h2 y (by simp [hy])]
set_option maxRecDepth 100000
theorem treeInfo : ∃ j, Tryz.prog.info? 154 = some j ∧ j.size ≠ 0 := by
  have h : (Tryz.prog.info? 154).map (fun i => i.size) = some 2 := by kernel_rfl
  cases e : Tryz.prog.info? 154 with
  | none => rw [e] at h; cases h
  | some j => 
    rw [e] at h
    have h : j.size = 2 := by simpa using h
    exact ⟨j, rfl, by omega⟩
theorem treeUnder : Tryz.prog.underlying 27 = some (.pointer 154) := by kernel_rfl
theorem tree_same (w : World) (g : Nat) : (binOp .eql 27 (.pointer (some ⟨g, 0, none⟩)) (.pointer (some ⟨g, 0, none⟩))).run Tryz.prog w = .ok (.bool true) w := by
  obtain ⟨j, hj, _⟩ := treeInfo
  exact run_eql_ptr_same w _ treeUnder hj
theorem tree_other {w : World} {g t k k' : Nat} {l l' : List En} (hg : TrR w g k l) (ht : TrR w t k' l') (hne : g ≠ t) : (binOp .eql 27 (.pointer (some ⟨g, 0, none⟩)) (.pointer (some ⟨t, 0, none⟩))).run Tryz.prog w = .ok (.bool false) w := by
  obtain ⟨c1, h1⟩ := hg.blk
  obtain ⟨c2, h2⟩ := ht.blk
  obtain ⟨j, hj, hsz⟩ := treeInfo
  exact run_eql_ptr_other w treeUnder hj hsz (by intro h; injection h with h; exact hne h) h1 h2
/-- Done -/
def DoneP (W : World) (k : Nat) (l : List En) (e : Ending) (w' : World) : Prop := ∃ t vin, e = .returned (.tuple #[.pointer (some ⟨t, 0, none⟩), vin, .bool true]) ∧ TrR w' t k l ∧ RdE w' vin l ∧ Below W.heap.size W w'
set_option maxHeartbeats 4000000 in
theorem done_del (w : World) (t k : Nat) (p : List Nat) (v : Nat) (l : List En) (vin vp : Value) (ht : TrR w t k l) (hin : RdE w vin l) (hl : EtS k l) (hp : RdU w vp (pti p)) (ho : p.length ≤ 40 ∧ (∀ c ∈ p, c < 2 ^ 64) ∧ v < 2 ^ 64) :
    Calls Tryz.prog 51 #[.pointer (some ⟨t, 0, none⟩), vin, .agg #[.bool true, vp, .int .u64 (v : Nat)]] w fun e w' => DoneP w k (stepL k l ⟨true, p, v⟩) e w' := by
  have HTK := Lib.hid (fun w1 (hb : Below w.heap.size w w1) => tk_any w1 t k (ht.bel hb).c0)
  have HT := Lib.hid (And.intro ht hin)
  have HV := Lib.hid hp
  have HD := Lib.hid ho
  have HL := Lib.hid hl
  obtain ⟨A2, c2, rfl, _⟩ := RdU.point hp
  obtain ⟨AI, cI, rfl, _⟩ := hin
  by_cases hk : p.length = k
  · have hps : PtS k p := ⟨hk, ho.2.1⟩
    have HRG := Lib.hid (fun w1 (hb : Below w.heap.size w w1) => rGet_any k l p _ _ w1 (HT.out.2.below hb) (HV.out.below hb) hl hps)
    have HRD := Lib.hid (fun w1 (hb : Below w.heap.size w w1) => rDel_any k l p _ _ w1 (HT.out.2.below hb) (HV.out.below hb) hl hps)
    have HTD := Lib.hid (fun w1 (hb : Below w.heap.size w w1) => tdel_any w1 t k p l _ (ht.bel hb) (HV.out.below hb) hk ho.2.1)
    have HST := Lib.hid (show stepL k l ⟨true, p, v⟩ = delE p l by unfold stepL; rw [if_pos hk]; rfl)
    have hn : ((p.length : Int) != (k : Int)) = false := by simp [hk]
    have HK := Lib.hid hk
    clear ht hp ho hl hps hk
    go_enter Tryz.func51, Tryz.ntmps51
    go_wp2_with fail
    refine (HTK.out _ (by repeat (first | exact Below.refl _ _ | (refine Below.drew ?_) | (refine below_drewN' ?_ _) | (refine below_alloc' ?_ _) | (refine Below.setCell ?_ (by first | exact Nat.le_refl _ | (simp; done) | (simp; omega)) _)))).mono ?_
    rintro e w1 ⟨rfl, hw⟩
    obtain rfl := hw.symm
    go_wp2_with fail
    refine (HTD.out _ (by repeat (first | exact Below.refl _ _ | (refine Below.drew ?_) | (refine below_drewN' ?_ _) | (refine below_alloc' ?_ _) | (refine Below.setCell ?_ (by first | exact Nat.le_refl _ | (simp; done) | (simp; omega)) _)))).mono ?_
    rintro e w1 ⟨hb, hc⟩
    have f1 : w1.cell? ⟨w.heap.size, 1, none⟩ = some (.slice A2 p.length c2) := Below.keeps hb _ _ (by simp [go_sem])
    have hBl := World.block_lt_of_cell? w1 _ f1
    have HB := Lib.hid (show Below w.heap.size w w1 from below_trans (by repeat (first | exact Below.refl _ _ | (refine Below.drew ?_) | (refine below_drewN' ?_ _) | (refine below_alloc' ?_ _) | (refine Below.setCell ?_ (by first | exact Nat.le_refl _ | (simp; done) | (simp; omega)) _))) hb)
    rcases hc with ⟨hg, rfl⟩ | ⟨x, g, hg, rfl, htd, hgs⟩
    · have HG := Lib.hid hg
      clear hb hg
      go_wp2_with fail
      refine (HRG.out _ (by repeat (first | exact HB.out | (refine Below.drew ?_) | (refine below_drewN' ?_ _) | (refine below_alloc' ?_ _) | (refine Below.setCell ?_ (by first | exact Nat.le_refl _ | (have := HB.out.size; simp; omega) | (have := HB.out.size; omega)) _)))).mono ?_
      rintro e w2 ⟨rfl, hb2⟩
      rw [HG.out]
      have HB2 := Lib.hid (HB.out.trans (hb2.mono HB.out.size))
      clear hb2
      go_wp2_with fail
      ((try simp only [Exit.inBlock, Exit.then]); refine bodyPost_ret (results_tmp3 rfl _ _ _) rfl ?_)
      rw [HST.out, del_absent HG.out]
      exact ⟨t, _, rfl, HT.out.1.bel (by repeat (first | exact HB2.out | (refine Below.drew ?_) | (refine below_drewN' ?_ _) | (refine below_alloc' ?_ _) | (refine Below.setCell ?_ (by first | exact Nat.le_refl _ | (have := HB2.out.size; simp; omega) | (have := HB2.out.size; omega)) _))), HT.out.2.below (by repeat (first | exact HB2.out | (refine Below.drew ?_) | (refine below_drewN' ?_ _) | (refine below_alloc' ?_ _) | (refine Below.setCell ?_ (by first | exact Nat.le_refl _ | (have := HB2.out.size; simp; omega) | (have := HB2.out.size; omega)) _))), (by repeat (first | exact HB2.out | (refine Below.drew ?_) | (refine below_drewN' ?_ _) | (refine below_alloc' ?_ _) | (refine Below.setCell ?_ (by first | exact Nat.le_refl _ | (have := HB2.out.size; simp; omega) | (have := HB2.out.size; omega)) _)))⟩
    · have HG := Lib.hid hg
      have HN := Lib.hid htd
      clear hb hg htd hgs
      go_wp2_with fail
      refine (HRG.out _ (by repeat (first | exact HB.out | (refine Below.drew ?_) | (refine below_drewN' ?_ _) | (refine below_alloc' ?_ _) | (refine Below.setCell ?_ (by first | exact Nat.le_refl _ | (have := HB.out.size; simp; omega) | (have := HB.out.size; omega)) _)))).mono ?_
      rintro e w2 ⟨rfl, hb2⟩
      rw [HG.out]
      have f3 := Below.keeps hb2 _ _ f1
      have HB2 := Lib.hid (HB.out.trans (hb2.mono HB.out.size))
      have HN2 := Lib.hid (HN.out.bel hb2)
      clear hb2 f1
      go_wp2_with fail
      refine (HRD.out _ (by repeat (first | exact HB2.out | (refine Below.drew ?_) | (refine below_drewN' ?_ _) | (refine below_alloc' ?_ _) | (refine Below.setCell ?_ (by first | exact Nat.le_refl _ | (have := HB2.out.size; simp; omega) | (have := HB2.out.size; omega)) _)))).mono ?_
      rintro e w3 ⟨v3, rfl, hin3, hb3⟩
      have HB3 := Lib.hid (HB2.out.trans (hb3.mono HB2.out.size))
      have HN3 := Lib.hid (And.intro (HN2.out.bel hb3) hin3)
      clear hb3 hin3
      go_wp2_with fail
      ((try simp only [Exit.inBlock, Exit.then]); refine bodyPost_ret (results_tmp3 rfl _ _ _) rfl ?_)
      rw [HST.out]
      exact ⟨g, _, rfl, HN3.out.1.bel (Below.refl _ _), HN3.out.2, HB3.out⟩
  · have HTD := Lib.hid (fun w1 (hb : Below w.heap.size w w1) => tdel_dim w1 t k p.length c2 A2 l (ht.bel hb) hk)
    have HST := Lib.hid (show stepL k l ⟨true, p, v⟩ = l by unfold stepL; rw [if_neg hk])
    have hn : ((p.length : Int) != (k : Int)) = true := by simp; omega
    have hn2 : ¬ (p.length : Int) = (k : Int) := by omega
    clear ht hp ho hl hk
    go_enter Tryz.func51, Tryz.ntmps51
    go_wp2_with fail
    refine (HTK.out _ (by repeat (first | exact Below.refl _ _ | (refine Below.drew ?_) | (refine below_drewN' ?_ _) | (refine below_alloc' ?_ _) | (refine Below.setCell ?_ (by first | exact Nat.le_refl _ | (simp; done) | (simp; omega)) _)))).mono ?_
    rintro e w1 ⟨rfl, hw⟩
    obtain rfl := hw.symm
    go_wp2_with fail
    refine (HTD.out _ (by repeat (first | exact Below.refl _ _ | (refine Below.drew ?_) | (refine below_drewN' ?_ _) | (refine below_alloc' ?_ _) | (refine Below.setCell ?_ (by first | exact Nat.le_refl _ | (simp; done) | (simp; omega)) _)))).mono ?_
    rintro e w1 ⟨rfl, hw⟩
    obtain rfl := hw.symm
    go_wp2_with fail
    ((try simp only [Exit.inBlock, Exit.then]); refine bodyPost_ret (results_tmp3 rfl _ _ _) rfl ?_)
    rw [HST.out]
    exact ⟨t, _, rfl, HT.out.1.bel (by repeat (first | exact Below.refl _ _ | (refine Below.drew ?_) | (refine below_drewN' ?_ _) | (refine below_alloc' ?_ _) | (refine Below.setCell ?_ (by first | exact Nat.le_refl _ | (simp; done) | (simp; omega)) _))), HT.out.2.below (by repeat (first | exact Below.refl _ _ | (refine Below.drew ?_) | (refine below_drewN' ?_ _) | (refine below_alloc' ?_ _) | (refine Below.setCell ?_ (by first | exact Nat.le_refl _ | (simp; done) | (simp; omega)) _))), (by repeat (first | exact Below.refl _ _ | (refine Below.drew ?_) | (refine below_drewN' ?_ _) | (refine below_alloc' ?_ _) | (refine Below.setCell ?_ (by first | exact Nat.le_refl _ | (simp; done) | (simp; omega)) _)))⟩
set_option maxHeartbeats 8000000 in
theorem done_put (w : World) (t k : Nat) (p : List Nat) (v : Nat) (l : List En) (vin vp : Value) (ht : TrR w t k l) (hin : RdE w vin l) (hl : EtS k l) (hp : RdU w vp (pti p)) (ho : p.length ≤ 40 ∧ (∀ c ∈ p, c < 2 ^ 64) ∧ v < 2 ^ 64) :
    Calls Tryz.prog 51 #[.pointer (some ⟨t, 0, none⟩), vin, .agg #[.bool false, vp, .int .u64 (v : Nat)]] w fun e w' => DoneP w k (stepL k l ⟨false, p, v⟩) e w' := by
  have HTK := Lib.hid (fun w1 (hb : Below w.heap.size w w1) => tk_any w1 t k (ht.bel hb).c0)
  have HT := Lib.hid (And.intro ht hin)
  have HV := Lib.hid hp
  have HD := Lib.hid ho
  have HL := Lib.hid hl
  have htl : t < w.heap.size := World.block_lt_of_cell? w _ ht.c0
  obtain ⟨A2, c2, rfl, _⟩ := RdU.point hp
  obtain ⟨AI, cI, rfl, _⟩ := hin
  by_cases hk : p.length = k
  · have hps : PtS k p := ⟨hk, ho.2.1⟩
    have HRG := Lib.hid (fun w1 (hb : Below w.heap.size w w1) => rGet_any k l p _ _ w1 (HT.out.2.below hb) (HV.out.below hb) hl hps)
    have HRP := Lib.hid (fun w1 (hb : Below w.heap.size w w1) => rPut_any k l p v _ _ w1 (HT.out.2.below hb) (HV.out.below hb) hl hps)
    have HTP := Lib.hid (fun w1 (hb : Below w.heap.size w w1) => tput_any w1 t k v p l _ (ht.bel hb) (HV.out.below hb) hk ho.2.1 ho.2.2)
    have HST := Lib.hid (show stepL k l ⟨false, p, v⟩ = insE p v l by unfold stepL; rw [if_pos hk]; rfl)
    have hn : ((p.length : Int) != (k : Int)) = false := by simp [hk]
    have HK := Lib.hid hk
    clear ht hp ho hl hps hk
    go_enter Tryz.func51, Tryz.ntmps51
    go_wp2_with fail
    refine (HTK.out _ (by repeat (first | exact Below.refl _ _ | (refine Below.drew ?_) | (refine below_drewN' ?_ _) | (refine below_alloc' ?_ _) | (refine Below.setCell ?_ (by first | exact Nat.le_refl _ | (simp; done) | (simp; omega)) _)))).mono ?_
    rintro e w1 ⟨rfl, hw⟩
    obtain rfl := hw.symm
    go_wp2_with fail
    refine (HTP.out _ (by repeat (first | exact Below.refl _ _ | (refine Below.drew ?_) | (refine below_drewN' ?_ _) | (refine below_alloc' ?_ _) | (refine Below.setCell ?_ (by first | exact Nat.le_refl _ | (simp; done) | (simp; omega)) _)))).mono ?_
    rintro e w1 ⟨g, rfl, htg, hb, hsame, hother⟩
    have f1 : w1.cell? ⟨w.heap.size, 1, none⟩ = some (.slice A2 p.length c2) := Below.keeps hb _ _ (by simp [go_sem])
    have f2 : w1.cell? ⟨w.heap.size, 2, none⟩ = some (.int .u64 (v : Nat)) := Below.keeps hb _ _ (by simp [go_sem])
    have hBl : w.heap.size < w1.heap.size := World.block_lt_of_cell? w1 _ f1
    have HB := Lib.hid (show Below w.heap.size w w1 from below_trans (by repeat (first | exact Below.refl _ _ | (refine Below.drew ?_) | (refine below_drewN' ?_ _) | (refine below_alloc' ?_ _) | (refine Below.setCell ?_ (by first | exact Nat.le_refl _ | (simp; done) | (simp; omega)) _))) hb)
    have hother' : getE l p ≠ some v → w.heap.size ≤ g := fun h => Nat.le_trans (by simp) (hother h)
    have HG := Lib.hid (And.intro hsame hother')
    have HN := Lib.hid htg
    have HWS := Lib.hid htl
    clear hsame hother hother' htg hb
    go_wp2_with fail
    refine (HRG.out _ (by repeat (first | exact HB.out | (refine Below.drew ?_) | (refine below_drewN' ?_ _) | (refine below_alloc' ?_ _) | (refine Below.setCell ?_ (by first | exact Nat.le_refl _ | (have := HB.out.size; simp; omega) | (have := HB.out.size; omega)) _)))).mono ?_
    rintro e w2 ⟨rfl, hb2⟩
    have HN2 := Lib.hid (And.intro (HN.out.bel hb2) (HB.out.trans (hb2.mono HB.out.size)))
    replace f1 := Below.keeps hb2 _ _ f1
    replace f2 := Below.keeps hb2 _ _ f2
    replace hBl := Nat.lt_of_lt_of_le hBl hb2.size
    clear hb2
    cases hget : getE l p with
    | none =>
      have hgt : ¬ g = t := by have := HG.out.2 (by rw [hget]; simp); omega
      have h1 := hgt
      have HEQ := Lib.hid (fun w3 (hb : Below w2.heap.size w2 w3) => tree_other (HN2.out.1.bel hb) ((HT.out.1.bel HN2.out.2).bel hb) hgt)
      have HGT := Lib.hid hget
      clear hget
      go_wp2_with fail
      refine wp_region_vals 28 [fun z9 _ => z9 = .pointer (some ⟨g, 0, none⟩),
        fun z9 _ => z9 = .slice AI l.length cI,
        fun z9 _ => z9 = .pointer (some ⟨w.heap.size, 1, none⟩),
        fun z9 _ => z9 = .slice A2 p.length c2,
        fun z9 _ => z9 = .pointer (some ⟨w.heap.size, 2, none⟩),
        fun z9 _ => z9 = .int .u64 (v : Nat),
        fun v9 w9 => RdE w9 v9 (insE p v l),
        fun z9 _ => z9 = .int .i64 0,
        fun z9 _ => z9 = .bool true,
        fun z9 _ => z9 = .bool true,
        fun z9 _ => z9 = .pointer (some ⟨g, 0, none⟩),
        fun z9 _ => z9 = .bool true,
        fun z9 _ => z9 = .bool true,
        fun z9 _ => z9 = .bool true,
        fun z9 _ => z9 = .bool false,
        fun z9 _ => z9 = .bool false,
        fun z9 _ => z9 = undef,
        fun z9 _ => z9 = undef,
        fun z9 _ => z9 = undef,
        fun z9 _ => z9 = undef,
        fun z9 _ => z9 = .bool false,
        fun z9 _ => z9 = .pointer (some ⟨g, 0, none⟩),
        fun z9 _ => z9 = .pointer (some ⟨t, 0, none⟩),
        fun z9 _ => z9 = .bool false,
        fun z9 _ => z9 = .bool true,
        fun z9 _ => z9 = .bool true,
        fun z9 _ => z9 = .pointer (some ⟨g, 0, none⟩),
        fun v9 w9 => RdE w9 v9 (insE p v l)]
        (by kernel_rfl) (by kernel_rfl) (by kernel_rfl) (by kernel_rfl) ?_ ?_ ?_
      · intro V hV v w1 w2 h hb
        simp only [List.mem_cons, List.not_mem_nil, or_false] at hV
        rcases hV with rfl | rfl | rfl | rfl | rfl | rfl | rfl | rfl | rfl | rfl | rfl | rfl | rfl | rfl | rfl | rfl | rfl | rfl | rfl | rfl | rfl | rfl | rfl | rfl | rfl | rfl | rfl | rfl
        all_goals first | exact h | (exact RdE.below h hb)
      · intro iq oq hiq hoq
        match iq, hiq with
        | 0, _ =>
        obtain rfl := Option.some.inj hoq
        intro a1 w1 K hk hK
        have e14 : a1.tmps.getD 14 undef = .pointer (some ⟨g, 0, none⟩) := hk.same 14 (by simp)
        simp [Region.wanted, Oper.wp, Act.eval, go_sem, e14, hgt, h1, f1, f2, hBl]
        exact hK _ _ (Below.refl _ _) rfl
        | 1, _ =>
        obtain rfl := Option.some.inj hoq
        intro a1 w1 K hk hK
        have e1 : a1.tmps.getD 1 undef = .slice AI l.length cI := hk.same 1 (by simp)
        simp [Region.wanted, Oper.wp, Act.eval, go_sem, e1, hgt, h1, f1, f2, hBl]
        exact hK _ _ (Below.refl _ _) rfl
        | 2, _ =>
        obtain rfl := Option.some.inj hoq
        intro a1 w1 K hk hK
        have e5 : a1.tmps.getD 5 undef = .pointer (some ⟨w.heap.size, 0, none⟩) := hk.same 5 (by simp)
        simp [Region.wanted, Oper.wp, Act.eval, go_sem, e5, hgt, h1, f1, f2, hBl]
        exact hK _ _ (Below.refl _ _) rfl
        | 3, _ =>
        obtain rfl := Option.some.inj hoq
        intro a1 w1 K hk hK
        have d101 : a1.tmps.getD 101 undef = .pointer (some ⟨w.heap.size, 1, none⟩) := hk.deps ⟨2, .data⟩ (by simp) rfl _ _ rfl rfl
        have c0 : w1.cell? ⟨w.heap.size, 1, none⟩ = some (.slice A2 p.length c2) := Below.keeps hk.ext _ _ (by simp [go_sem, hgt, h1, f1, f2, hBl])
        have c1 : w1.cell? ⟨w.heap.size, 2, none⟩ = some (.int .u64 (v : Nat)) := Below.keeps hk.ext _ _ (by simp [go_sem, hgt, h1, f1, f2, hBl])
        simp [Region.wanted, Oper.wp, Act.eval, go_sem, d101, c0, c1, hgt, h1, f1, f2, hBl]
        exact hK _ _ (Below.refl _ _) rfl
        | 4, _ =>
        obtain rfl := Option.some.inj hoq
        intro a1 w1 K hk hK
        have e5 : a1.tmps.getD 5 undef = .pointer (some ⟨w.heap.size, 0, none⟩) := hk.same 5 (by simp)
        simp [Region.wanted, Oper.wp, Act.eval, go_sem, e5, hgt, h1, f1, f2, hBl]
        exact hK _ _ (Below.refl _ _) rfl
        | 5, _ =>
        obtain rfl := Option.some.inj hoq
        intro a1 w1 K hk hK
        have d103 : a1.tmps.getD 103 undef = .pointer (some ⟨w.heap.size, 2, none⟩) := hk.deps ⟨4, .data⟩ (by simp) rfl _ _ rfl rfl
        have c0 : w1.cell? ⟨w.heap.size, 1, none⟩ = some (.slice A2 p.length c2) := Below.keeps hk.ext _ _ (by simp [go_sem, hgt, h1, f1, f2, hBl])
        have c1 : w1.cell? ⟨w.heap.size, 2, none⟩ = some (.int .u64 (v : Nat)) := Below.keeps hk.ext _ _ (by simp [go_sem, hgt, h1, f1, f2, hBl])
        simp [Region.wanted, Oper.wp, Act.eval, go_sem, d103, c0, c1, hgt, h1, f1, f2, hBl]
        exact hK _ _ (Below.refl _ _) rfl
        | 6, _ =>
        obtain rfl := Option.some.inj hoq
        intro a1 w1 K hk hK
        have d100 : a1.tmps.getD 100 undef = .slice AI l.length cI := hk.deps ⟨1, .data⟩ (by simp) rfl _ _ rfl rfl
        have d102 : a1.tmps.getD 102 undef = .slice A2 p.length c2 := hk.deps ⟨3, .data⟩ (by simp) rfl _ _ rfl rfl
        have d104 : a1.tmps.getD 104 undef = .int .u64 (v : Nat) := hk.deps ⟨5, .data⟩ (by simp) rfl _ _ rfl rfl
        simp [Region.wanted, Oper.wp, Act.eval, go_sem, d100, d102, d104, hgt, h1, f1, f2, hBl]
        refine (HRP.out _ (HN2.out.2.trans ((show Below w2.heap.size w2 _ from below_trans (by repeat (first | exact Below.refl _ _ | (refine Below.drew ?_) | (refine below_drewN' ?_ _) | (refine below_alloc' ?_ _) | (refine Below.setCell ?_ (by first | exact Nat.le_refl _ | (simp; done) | (simp; omega)) _))) hk.ext).mono HN2.out.2.size))).mono ?_
        rintro e w9 ⟨v9, rfl, h9, hb9⟩
        exact hK _ _ hb9 h9
        | 7, _ =>
        obtain rfl := Option.some.inj hoq
        intro a1 w1 K hk hK
        have e15 : a1.tmps.getD 15 undef = .int .i64 0 := hk.same 15 (by simp)
        simp [Region.wanted, Oper.wp, Act.eval, go_sem, e15, hgt, h1, f1, f2, hBl]
        exact hK _ _ (Below.refl _ _) rfl
        | 8, _ =>
        obtain rfl := Option.some.inj hoq
        intro a1 w1 K hk hK
        have d106 : a1.tmps.getD 106 undef = .int .i64 0 := hk.deps ⟨7, .data⟩ (by simp) rfl _ _ rfl rfl
        simp [Region.wanted, Oper.wp, Act.eval, go_sem, d106, hgt, h1, f1, f2, hBl]
        exact hK _ _ (Below.refl _ _) rfl
        | 9, _ =>
        obtain rfl := Option.some.inj hoq
        intro a1 w1 K hk hK
        have d107 : a1.tmps.getD 107 undef = .bool true := hk.deps ⟨8, .data⟩ (by simp) rfl _ _ rfl rfl
        simp [Region.wanted, Oper.wp, Act.eval, go_sem, d107, hgt, h1, f1, f2, hBl]
        exact hK _ _ (Below.refl _ _) rfl
        | 10, _ =>
        obtain rfl := Option.some.inj hoq
        intro a1 w1 K hk hK
        have e14 : a1.tmps.getD 14 undef = .pointer (some ⟨g, 0, none⟩) := hk.same 14 (by simp)
        have gd : a1.tmps[108]? = some (.bool true) := getD_bool (hk.deps ⟨9, .guard⟩ (by simp) rfl _ _ rfl rfl)
        simp [Region.wanted, Oper.wp, Act.eval, go_sem, e14, gd, yielded, hgt, h1, f1, f2, hBl]
        exact hK _ _ (Below.refl _ _) rfl
        | 11, _ =>
        obtain rfl := Option.some.inj hoq
        intro a1 w1 K hk hK
        have d109 : a1.tmps.getD 109 undef = .pointer (some ⟨g, 0, none⟩) := hk.deps ⟨10, .data⟩ (by simp) rfl _ _ rfl rfl
        have gd : a1.tmps[108]? = some (.bool true) := getD_bool (hk.deps ⟨9, .guard⟩ (by simp) rfl _ _ rfl rfl)
        simp [Region.wanted, Oper.wp, Act.eval, go_sem, d109, gd, yielded, hgt, h1, f1, f2, hBl]
        exact hK _ _ (Below.refl _ _) rfl
        | 12, _ =>
        obtain rfl := Option.some.inj hoq
        intro a1 w1 K hk hK
        have d108 : a1.tmps.getD 108 undef = .bool true := hk.deps ⟨9, .data⟩ (by simp) rfl _ _ rfl rfl
        have d110 : a1.tmps.getD 110 undef = .bool true := hk.deps ⟨11, .data⟩ (by simp) rfl _ _ rfl rfl
        simp [Region.wanted, Oper.wp, Act.eval, go_sem, d108, d110, hgt, h1, f1, f2, hBl]
        exact hK _ _ (Below.refl _ _) rfl
        | 13, _ =>
        obtain rfl := Option.some.inj hoq
        intro a1 w1 K hk hK
        have d111 : a1.tmps.getD 111 undef = .bool true := hk.deps ⟨12, .data⟩ (by simp) rfl _ _ rfl rfl
        simp [Region.wanted, Oper.wp, Act.eval, go_sem, d111, hgt, h1, f1, f2, hBl]
        exact hK _ _ (Below.refl _ _) rfl
        | 14, _ =>
        obtain rfl := Option.some.inj hoq
        intro a1 w1 K hk hK
        have e17 : a1.tmps.getD 17 undef = .bool false := hk.same 17 (by simp)
        have gd : a1.tmps[112]? = some (.bool true) := getD_bool (hk.deps ⟨13, .guard⟩ (by simp) rfl _ _ rfl rfl)
        simp [Region.wanted, Oper.wp, Act.eval, go_sem, e17, gd, yielded, hgt, h1, f1, f2, hBl]
        exact hK _ _ (Below.refl _ _) rfl
        | 15, _ =>
        obtain rfl := Option.some.inj hoq
        intro a1 w1 K hk hK
        have d113 : a1.tmps.getD 113 undef = .bool false := hk.deps ⟨14, .data⟩ (by simp) rfl _ _ rfl rfl
        have gd : a1.tmps[112]? = some (.bool true) := getD_bool (hk.deps ⟨13, .guard⟩ (by simp) rfl _ _ rfl rfl)
        simp [Region.wanted, Oper.wp, Act.eval, go_sem, d113, gd, yielded, hgt, h1, f1, f2, hBl]
        exact hK _ _ (Below.refl _ _) rfl
        | 16, _ =>
        obtain rfl := Option.some.inj hoq
        intro a1 w1 K hk hK
        have e16 : a1.tmps.getD 16 undef = .int .u64 0 := hk.same 16 (by simp)
        have gd : a1.tmps[114]? = some (.bool false) := getD_bool (hk.deps ⟨15, .guard⟩ (by simp) rfl _ _ rfl rfl)
        simp [Region.wanted, Oper.wp, Act.eval, go_sem, e16, gd, yielded, hgt, h1, f1, f2, hBl]
        exact hK _ _ (Below.refl _ _) rfl
        | 17, _ =>
        obtain rfl := Option.some.inj hoq
        intro a1 w1 K hk hK
        have e5 : a1.tmps.getD 5 undef = .pointer (some ⟨w.heap.size, 0, none⟩) := hk.same 5 (by simp)
        have gd : a1.tmps[114]? = some (.bool false) := getD_bool (hk.deps ⟨15, .guard⟩ (by simp) rfl _ _ rfl rfl)
        simp [Region.wanted, Oper.wp, Act.eval, go_sem, e5, gd, yielded, hgt, h1, f1, f2, hBl]
        exact hK _ _ (Below.refl _ _) rfl
        | 18, _ =>
        obtain rfl := Option.some.inj hoq
        intro a1 w1 K hk hK
        have d116 : a1.tmps.getD 116 undef = undef := hk.deps ⟨17, .data⟩ (by simp) rfl _ _ rfl rfl
        have gd : a1.tmps[114]? = some (.bool false) := getD_bool (hk.deps ⟨15, .guard⟩ (by simp) rfl _ _ rfl rfl)
        have c0 : w1.cell? ⟨w.heap.size, 1, none⟩ = some (.slice A2 p.length c2) := Below.keeps hk.ext _ _ (by simp [go_sem, hgt, h1, f1, f2, hBl])
        have c1 : w1.cell? ⟨w.heap.size, 2, none⟩ = some (.int .u64 (v : Nat)) := Below.keeps hk.ext _ _ (by simp [go_sem, hgt, h1, f1, f2, hBl])
        simp [Region.wanted, Oper.wp, Act.eval, go_sem, d116, gd, yielded, c0, c1, hgt, h1, f1, f2, hBl]
        exact hK _ _ (Below.refl _ _) rfl
        | 19, _ =>
        obtain rfl := Option.some.inj hoq
        intro a1 w1 K hk hK
        have d115 : a1.tmps.getD 115 undef = undef := hk.deps ⟨16, .data⟩ (by simp) rfl _ _ rfl rfl
        have d117 : a1.tmps.getD 117 undef = undef := hk.deps ⟨18, .data⟩ (by simp) rfl _ _ rfl rfl
        have gd : a1.tmps[114]? = some (.bool false) := getD_bool (hk.deps ⟨15, .guard⟩ (by simp) rfl _ _ rfl rfl)
        simp [Region.wanted, Oper.wp, Act.eval, go_sem, d115, d117, gd, yielded, hgt, h1, f1, f2, hBl]
        exact hK _ _ (Below.refl _ _) rfl
        | 20, _ =>
        obtain rfl := Option.some.inj hoq
        intro a1 w1 K hk hK
        have d114 : a1.tmps.getD 114 undef = .bool false := hk.deps ⟨15, .data⟩ (by simp) rfl _ _ rfl rfl
        have d118 : a1.tmps.getD 118 undef = undef := hk.deps ⟨19, .data⟩ (by simp) rfl _ _ rfl rfl
        have gd : a1.tmps[112]? = some (.bool true) := getD_bool (hk.deps ⟨13, .guard⟩ (by simp) rfl _ _ rfl rfl)
        simp [Region.wanted, Oper.wp, Act.eval, go_sem, d114, d118, gd, yielded, hgt, h1, f1, f2, hBl]
        exact hK _ _ (Below.refl _ _) rfl
        | 21, _ =>
        obtain rfl := Option.some.inj hoq
        intro a1 w1 K hk hK
        have e14 : a1.tmps.getD 14 undef = .pointer (some ⟨g, 0, none⟩) := hk.same 14 (by simp)
        have gd : a1.tmps[112]? = some (.bool true) := getD_bool (hk.deps ⟨13, .guard⟩ (by simp) rfl _ _ rfl rfl)
        simp [Region.wanted, Oper.wp, Act.eval, go_sem, e14, gd, yielded, hgt, h1, f1, f2, hBl]
        exact hK _ _ (Below.refl _ _) rfl
        | 22, _ =>
        obtain rfl := Option.some.inj hoq
        intro a1 w1 K hk hK
        have e0 : a1.tmps.getD 0 undef = .pointer (some ⟨t, 0, none⟩) := hk.same 0 (by simp)
        have gd : a1.tmps[112]? = some (.bool true) := getD_bool (hk.deps ⟨13, .guard⟩ (by simp) rfl _ _ rfl rfl)
        simp [Region.wanted, Oper.wp, Act.eval, go_sem, e0, gd, yielded, hgt, h1, f1, f2, hBl]
        exact hK _ _ (Below.refl _ _) rfl
        | 23, _ =>
        obtain rfl := Option.some.inj hoq
        intro a1 w1 K hk hK
        have d120 : a1.tmps.getD 120 undef = .pointer (some ⟨g, 0, none⟩) := hk.deps ⟨21, .data⟩ (by simp) rfl _ _ rfl rfl
        have d121 : a1.tmps.getD 121 undef = .pointer (some ⟨t, 0, none⟩) := hk.deps ⟨22, .data⟩ (by simp) rfl _ _ rfl rfl
        have gd : a1.tmps[112]? = some (.bool true) := getD_bool (hk.deps ⟨13, .guard⟩ (by simp) rfl _ _ rfl rfl)
        simp [Region.wanted, Oper.wp, Act.eval, go_sem, d120, d121, gd, yielded, hgt, h1, f1, f2, hBl]
        rw [HEQ.out w1 (below_trans (by repeat (first | exact Below.refl _ _ | (refine Below.drew ?_) | (refine below_drewN' ?_ _) | (refine below_alloc' ?_ _) | (refine Below.setCell ?_ (by first | exact Nat.le_refl _ | (simp; done) | (simp; omega)) _))) hk.ext)]
        exact hK _ _ (Below.refl _ _) rfl
        | 24, _ =>
        obtain rfl := Option.some.inj hoq
        intro a1 w1 K hk hK
        have d119 : a1.tmps.getD 119 undef = .bool false := hk.deps ⟨20, .data⟩ (by simp) rfl _ _ rfl rfl
        have d122 : a1.tmps.getD 122 undef = .bool false := hk.deps ⟨23, .data⟩ (by simp) rfl _ _ rfl rfl
        have gd : a1.tmps[112]? = some (.bool true) := getD_bool (hk.deps ⟨13, .guard⟩ (by simp) rfl _ _ rfl rfl)
        simp [Region.wanted, Oper.wp, Act.eval, go_sem, d119, d122, gd, yielded, hgt, h1, f1, f2, hBl]
        exact hK _ _ (Below.refl _ _) rfl
        | 25, _ =>
        obtain rfl := Option.some.inj hoq
        intro a1 w1 K hk hK
        have d112 : a1.tmps.getD 112 undef = .bool true := hk.deps ⟨13, .data⟩ (by simp) rfl _ _ rfl rfl
        have d123 : a1.tmps.getD 123 undef = .bool true := hk.deps ⟨24, .data⟩ (by simp) rfl _ _ rfl rfl
        simp [Region.wanted, Oper.wp, Act.eval, go_sem, d112, d123, hgt, h1, f1, f2, hBl]
        exact hK _ _ (Below.refl _ _) rfl
        | 26, _ =>
        obtain rfl := Option.some.inj hoq
        intro a1 w1 K hk hK
        have d99 : a1.tmps.getD 99 undef = .pointer (some ⟨g, 0, none⟩) := hk.deps ⟨0, .data⟩ (by simp) rfl _ _ rfl rfl
        simp [Region.wanted, Oper.wp, Act.eval, go_sem, d99, hgt, h1, f1, f2, hBl]
        exact hK _ _ (Below.refl _ _) rfl
        | 27, _ =>
        obtain rfl := Option.some.inj hoq
        intro a1 w1 K hk hK
        have D105 : RdE w1 (a1.tmps.getD 105 undef) (insE p v l) := hk.deps ⟨6, .data⟩ (by simp) rfl _ _ rfl rfl
        simp [Region.wanted, Oper.wp, Act.eval, go_sem, hgt, h1, f1, f2, hBl]
        exact hK _ _ (Below.refl _ _) (by simpa [nthV] using D105)
        | k + 28, hk => exact absurd hk (by omega)
      · intro vs w3 hl hb3 hv
        match vs, hl with
        | v0 :: v1 :: v2 :: v3 :: v4 :: v5 :: v6 :: v7 :: v8 :: v9 :: v10 :: v11 :: v12 :: v13 :: v14 :: v15 :: v16 :: v17 :: v18 :: v19 :: v20 :: v21 :: v22 :: v23 :: v24 :: v25 :: v26 :: v27 :: [], _ =>
        obtain rfl : v0 = .pointer (some ⟨g, 0, none⟩) := hv 0 (by omega)
        obtain rfl : v1 = .slice AI l.length cI := hv 1 (by omega)
        obtain rfl : v2 = .pointer (some ⟨w.heap.size, 1, none⟩) := hv 2 (by omega)
        obtain rfl : v3 = .slice A2 p.length c2 := hv 3 (by omega)
        obtain rfl : v4 = .pointer (some ⟨w.heap.size, 2, none⟩) := hv 4 (by omega)
        obtain rfl : v5 = .int .u64 (v : Nat) := hv 5 (by omega)
        have q6 : RdE w3 v6 (insE p v l) := hv 6 (by omega)
        obtain rfl : v7 = .int .i64 0 := hv 7 (by omega)
        obtain rfl : v8 = .bool true := hv 8 (by omega)
        obtain rfl : v9 = .bool true := hv 9 (by omega)
        obtain rfl : v10 = .pointer (some ⟨g, 0, none⟩) := hv 10 (by omega)
        obtain rfl : v11 = .bool true := hv 11 (by omega)
        obtain rfl : v12 = .bool true := hv 12 (by omega)
        obtain rfl : v13 = .bool true := hv 13 (by omega)
        obtain rfl : v14 = .bool false := hv 14 (by omega)
        obtain rfl : v15 = .bool false := hv 15 (by omega)
        obtain rfl : v16 = undef := hv 16 (by omega)
        obtain rfl : v17 = undef := hv 17 (by omega)
        obtain rfl : v18 = undef := hv 18 (by omega)
        obtain rfl : v19 = undef := hv 19 (by omega)
        obtain rfl : v20 = .bool false := hv 20 (by omega)
        obtain rfl : v21 = .pointer (some ⟨g, 0, none⟩) := hv 21 (by omega)
        obtain rfl : v22 = .pointer (some ⟨t, 0, none⟩) := hv 22 (by omega)
        obtain rfl : v23 = .bool false := hv 23 (by omega)
        obtain rfl : v24 = .bool true := hv 24 (by omega)
        obtain rfl : v25 = .bool true := hv 25 (by omega)
        obtain rfl : v26 = .pointer (some ⟨g, 0, none⟩) := hv 26 (by omega)
        have q27 : RdE w3 v27 (insE p v l) := hv 27 (by omega)
        clear hv
        simp only [putAll, List.take_succ_cons, List.take_zero, List.drop_succ_cons, List.drop_zero, Act.put, List.setIfInBounds_toArray, List.set_cons_succ, List.set_cons_zero]
        have hb4 : Below w2.heap.size w2 w3 := below_trans (by repeat (first | exact Below.refl _ _ | (refine Below.drew ?_) | (refine below_drewN' ?_ _) | (refine below_alloc' ?_ _) | (refine Below.setCell ?_ (by first | exact Nat.le_refl _ | (simp; done) | (simp; omega)) _))) hb3
        have HF := Lib.hid (And.intro (HN2.out.1.bel hb4) (And.intro q27 (HN2.out.2.trans (hb4.mono HN2.out.2.size))))
        clear q6 q27 hb3 hb4
        go_wp2_with fail
        ((try simp only [Exit.inBlock, Exit.then]); refine bodyPost_ret (results_tmp3 rfl _ _ _) rfl ?_)
        rw [HST.out]
        exact ⟨g, _, rfl, HF.out⟩
    | some x =>
      by_cases hx : x = v
      · subst hx
        obtain rfl : g = t := HG.out.1 hget
        have HGT := Lib.hid hget
        have hgt : True := trivial
        have HEQ := Lib.hid (fun w3 (hb : Below w2.heap.size w2 w3) => tree_same w3 g)
        have h1 : True := trivial
        clear hget
        go_wp2_with fail
        refine wp_region_vals 28 [fun z9 _ => z9 = .pointer (some ⟨g, 0, none⟩),
          fun z9 _ => z9 = .slice AI l.length cI,
          fun z9 _ => z9 = .pointer (some ⟨w.heap.size, 1, none⟩),
          fun z9 _ => z9 = .slice A2 p.length c2,
          fun z9 _ => z9 = .pointer (some ⟨w.heap.size, 2, none⟩),
          fun z9 _ => z9 = .int .u64 (x : Nat),
          fun v9 w9 => RdE w9 v9 (insE p x l),
          fun z9 _ => z9 = .int .i64 0,
          fun z9 _ => z9 = .bool true,
          fun z9 _ => z9 = .bool true,
          fun z9 _ => z9 = .pointer (some ⟨g, 0, none⟩),
          fun z9 _ => z9 = .bool true,
          fun z9 _ => z9 = .bool true,
          fun z9 _ => z9 = .bool true,
          fun z9 _ => z9 = .bool true,
          fun z9 _ => z9 = .bool true,
          fun z9 _ => z9 = .int .u64 (x : Nat),
          fun z9 _ => z9 = .pointer (some ⟨w.heap.size, 2, none⟩),
          fun z9 _ => z9 = .int .u64 (x : Nat),
          fun z9 _ => z9 = .bool true,
          fun z9 _ => z9 = .bool true,
          fun z9 _ => z9 = .pointer (some ⟨g, 0, none⟩),
          fun z9 _ => z9 = .pointer (some ⟨g, 0, none⟩),
          fun z9 _ => z9 = .bool true,
          fun z9 _ => z9 = .bool true,
          fun z9 _ => z9 = .bool true,
          fun z9 _ => z9 = .pointer (some ⟨g, 0, none⟩),
          fun v9 w9 => RdE w9 v9 (insE p x l)]
          (by kernel_rfl) (by kernel_rfl) (by kernel_rfl) (by kernel_rfl) ?_ ?_ ?_
        · intro V hV v w1 w2 h hb
          simp only [List.mem_cons, List.not_mem_nil, or_false] at hV
          rcases hV with rfl | rfl | rfl | rfl | rfl | rfl | rfl | rfl | rfl | rfl | rfl | rfl | rfl | rfl | rfl | rfl | rfl | rfl | rfl | rfl | rfl | rfl | rfl | rfl | rfl | rfl | rfl | rfl
          all_goals first | exact h | (exact RdE.below h hb)
        · intro iq oq hiq hoq
          match iq, hiq with
          | 0, _ =>
          obtain rfl := Option.some.inj hoq
          intro a1 w1 K hk hK
          have e14 : a1.tmps.getD 14 undef = .pointer (some ⟨g, 0, none⟩) := hk.same 14 (by simp)
          simp [Region.wanted, Oper.wp, Act.eval, go_sem, e14, hgt, h1, f1, f2, hBl]
          exact hK _ _ (Below.refl _ _) rfl
          | 1, _ =>
          obtain rfl := Option.some.inj hoq
          intro a1 w1 K hk hK
          have e1 : a1.tmps.getD 1 undef = .slice AI l.length cI := hk.same 1 (by simp)
          simp [Region.wanted, Oper.wp, Act.eval, go_sem, e1, hgt, h1, f1, f2, hBl]
          exact hK _ _ (Below.refl _ _) rfl
          | 2, _ =>
          obtain rfl := Option.some.inj hoq
          intro a1 w1 K hk hK
          have e5 : a1.tmps.getD 5 undef = .pointer (some ⟨w.heap.size, 0, none⟩) := hk.same 5 (by simp)
          simp [Region.wanted, Oper.wp, Act.eval, go_sem, e5, hgt, h1, f1, f2, hBl]
          exact hK _ _ (Below.refl _ _) rfl
          | 3, _ =>
          obtain rfl := Option.some.inj hoq
          intro a1 w1 K hk hK
          have d101 : a1.tmps.getD 101 undef = .pointer (some ⟨w.heap.size, 1, none⟩) := hk.deps ⟨2, .data⟩ (by simp) rfl _ _ rfl rfl
          have c0 : w1.cell? ⟨w.heap.size, 1, none⟩ = some (.slice A2 p.length c2) := Below.keeps hk.ext _ _ (by simp [go_sem, hgt, h1, f1, f2, hBl])
          have c1 : w1.cell? ⟨w.heap.size, 2, none⟩ = some (.int .u64 (x : Nat)) := Below.keeps hk.ext _ _ (by simp [go_sem, hgt, h1, f1, f2, hBl])
          simp [Region.wanted, Oper.wp, Act.eval, go_sem, d101, c0, c1, hgt, h1, f1, f2, hBl]
          exact hK _ _ (Below.refl _ _) rfl
          | 4, _ =>
          obtain rfl := Option.some.inj hoq
          intro a1 w1 K hk hK
          have e5 : a1.tmps.getD 5 undef = .pointer (some ⟨w.heap.size, 0, none⟩) := hk.same 5 (by simp)
          simp [Region.wanted, Oper.wp, Act.eval, go_sem, e5, hgt, h1, f1, f2, hBl]
          exact hK _ _ (Below.refl _ _) rfl
          | 5, _ =>
          obtain rfl := Option.some.inj hoq
          intro a1 w1 K hk hK
          have d103 : a1.tmps.getD 103 undef = .pointer (some ⟨w.heap.size, 2, none⟩) := hk.deps ⟨4, .data⟩ (by simp) rfl _ _ rfl rfl
          have c0 : w1.cell? ⟨w.heap.size, 1, none⟩ = some (.slice A2 p.length c2) := Below.keeps hk.ext _ _ (by simp [go_sem, hgt, h1, f1, f2, hBl])
          have c1 : w1.cell? ⟨w.heap.size, 2, none⟩ = some (.int .u64 (x : Nat)) := Below.keeps hk.ext _ _ (by simp [go_sem, hgt, h1, f1, f2, hBl])
          simp [Region.wanted, Oper.wp, Act.eval, go_sem, d103, c0, c1, hgt, h1, f1, f2, hBl]
          exact hK _ _ (Below.refl _ _) rfl
          | 6, _ =>
          obtain rfl := Option.some.inj hoq
          intro a1 w1 K hk hK
          have d100 : a1.tmps.getD 100 undef = .slice AI l.length cI := hk.deps ⟨1, .data⟩ (by simp) rfl _ _ rfl rfl
          have d102 : a1.tmps.getD 102 undef = .slice A2 p.length c2 := hk.deps ⟨3, .data⟩ (by simp) rfl _ _ rfl rfl
          have d104 : a1.tmps.getD 104 undef = .int .u64 (x : Nat) := hk.deps ⟨5, .data⟩ (by simp) rfl _ _ rfl rfl
          simp [Region.wanted, Oper.wp, Act.eval, go_sem, d100, d102, d104, hgt, h1, f1, f2, hBl]
          refine (HRP.out _ (HN2.out.2.trans ((show Below w2.heap.size w2 _ from below_trans (by repeat (first | exact Below.refl _ _ | (refine Below.drew ?_) | (refine below_drewN' ?_ _) | (refine below_alloc' ?_ _) | (refine Below.setCell ?_ (by first | exact Nat.le_refl _ | (simp; done) | (simp; omega)) _))) hk.ext).mono HN2.out.2.size))).mono ?_
          rintro e w9 ⟨v9, rfl, h9, hb9⟩
          exact hK _ _ hb9 h9
          | 7, _ =>
          obtain rfl := Option.some.inj hoq
          intro a1 w1 K hk hK
          have e15 : a1.tmps.getD 15 undef = .int .i64 0 := hk.same 15 (by simp)
          simp [Region.wanted, Oper.wp, Act.eval, go_sem, e15, hgt, h1, f1, f2, hBl]
          exact hK _ _ (Below.refl _ _) rfl
          | 8, _ =>
          obtain rfl := Option.some.inj hoq
          intro a1 w1 K hk hK
          have d106 : a1.tmps.getD 106 undef = .int .i64 0 := hk.deps ⟨7, .data⟩ (by simp) rfl _ _ rfl rfl
          simp [Region.wanted, Oper.wp, Act.eval, go_sem, d106, hgt, h1, f1, f2, hBl]
          exact hK _ _ (Below.refl _ _) rfl
          | 9, _ =>
          obtain rfl := Option.some.inj hoq
          intro a1 w1 K hk hK
          have d107 : a1.tmps.getD 107 undef = .bool true := hk.deps ⟨8, .data⟩ (by simp) rfl _ _ rfl rfl
          simp [Region.wanted, Oper.wp, Act.eval, go_sem, d107, hgt, h1, f1, f2, hBl]
          exact hK _ _ (Below.refl _ _) rfl
          | 10, _ =>
          obtain rfl := Option.some.inj hoq
          intro a1 w1 K hk hK
          have e14 : a1.tmps.getD 14 undef = .pointer (some ⟨g, 0, none⟩) := hk.same 14 (by simp)
          have gd : a1.tmps[108]? = some (.bool true) := getD_bool (hk.deps ⟨9, .guard⟩ (by simp) rfl _ _ rfl rfl)
          simp [Region.wanted, Oper.wp, Act.eval, go_sem, e14, gd, yielded, hgt, h1, f1, f2, hBl]
          exact hK _ _ (Below.refl _ _) rfl
          | 11, _ =>
          obtain rfl := Option.some.inj hoq
          intro a1 w1 K hk hK
          have d109 : a1.tmps.getD 109 undef = .pointer (some ⟨g, 0, none⟩) := hk.deps ⟨10, .data⟩ (by simp) rfl _ _ rfl rfl
          have gd : a1.tmps[108]? = some (.bool true) := getD_bool (hk.deps ⟨9, .guard⟩ (by simp) rfl _ _ rfl rfl)
          simp [Region.wanted, Oper.wp, Act.eval, go_sem, d109, gd, yielded, hgt, h1, f1, f2, hBl]
          exact hK _ _ (Below.refl _ _) rfl
          | 12, _ =>
          obtain rfl := Option.some.inj hoq
          intro a1 w1 K hk hK
          have d108 : a1.tmps.getD 108 undef = .bool true := hk.deps ⟨9, .data⟩ (by simp) rfl _ _ rfl rfl
          have d110 : a1.tmps.getD 110 undef = .bool true := hk.deps ⟨11, .data⟩ (by simp) rfl _ _ rfl rfl
          simp [Region.wanted, Oper.wp, Act.eval, go_sem, d108, d110, hgt, h1, f1, f2, hBl]
          exact hK _ _ (Below.refl _ _) rfl
          | 13, _ =>
          obtain rfl := Option.some.inj hoq
          intro a1 w1 K hk hK
          have d111 : a1.tmps.getD 111 undef = .bool true := hk.deps ⟨12, .data⟩ (by simp) rfl _ _ rfl rfl
          simp [Region.wanted, Oper.wp, Act.eval, go_sem, d111, hgt, h1, f1, f2, hBl]
          exact hK _ _ (Below.refl _ _) rfl
          | 14, _ =>
          obtain rfl := Option.some.inj hoq
          intro a1 w1 K hk hK
          have e17 : a1.tmps.getD 17 undef = .bool true := hk.same 17 (by simp)
          have gd : a1.tmps[112]? = some (.bool true) := getD_bool (hk.deps ⟨13, .guard⟩ (by simp) rfl _ _ rfl rfl)
          simp [Region.wanted, Oper.wp, Act.eval, go_sem, e17, gd, yielded, hgt, h1, f1, f2, hBl]
          exact hK _ _ (Below.refl _ _) rfl
          | 15, _ =>
          obtain rfl := Option.some.inj hoq
          intro a1 w1 K hk hK
          have d113 : a1.tmps.getD 113 undef = .bool true := hk.deps ⟨14, .data⟩ (by simp) rfl _ _ rfl rfl
          have gd : a1.tmps[112]? = some (.bool true) := getD_bool (hk.deps ⟨13, .guard⟩ (by simp) rfl _ _ rfl rfl)
          simp [Region.wanted, Oper.wp, Act.eval, go_sem, d113, gd, yielded, hgt, h1, f1, f2, hBl]
          exact hK _ _ (Below.refl _ _) rfl
          | 16, _ =>
          obtain rfl := Option.some.inj hoq
          intro a1 w1 K hk hK
          have e16 : a1.tmps.getD 16 undef = .int .u64 (x : Nat) := hk.same 16 (by simp)
          have gd : a1.tmps[114]? = some (.bool true) := getD_bool (hk.deps ⟨15, .guard⟩ (by simp) rfl _ _ rfl rfl)
          simp [Region.wanted, Oper.wp, Act.eval, go_sem, e16, gd, yielded, hgt, h1, f1, f2, hBl]
          exact hK _ _ (Below.refl _ _) rfl
          | 17, _ =>
          obtain rfl := Option.some.inj hoq
          intro a1 w1 K hk hK
          have e5 : a1.tmps.getD 5 undef = .pointer (some ⟨w.heap.size, 0, none⟩) := hk.same 5 (by simp)
          have gd : a1.tmps[114]? = some (.bool true) := getD_bool (hk.deps ⟨15, .guard⟩ (by simp) rfl _ _ rfl rfl)
          simp [Region.wanted, Oper.wp, Act.eval, go_sem, e5, gd, yielded, hgt, h1, f1, f2, hBl]
          exact hK _ _ (Below.refl _ _) rfl
          | 18, _ =>
          obtain rfl := Option.some.inj hoq
          intro a1 w1 K hk hK
          have d116 : a1.tmps.getD 116 undef = .pointer (some ⟨w.heap.size, 2, none⟩) := hk.deps ⟨17, .data⟩ (by simp) rfl _ _ rfl rfl
          have gd : a1.tmps[114]? = some (.bool true) := getD_bool (hk.deps ⟨15, .guard⟩ (by simp) rfl _ _ rfl rfl)
          have c0 : w1.cell? ⟨w.heap.size, 1, none⟩ = some (.slice A2 p.length c2) := Below.keeps hk.ext _ _ (by simp [go_sem, hgt, h1, f1, f2, hBl])
          have c1 : w1.cell? ⟨w.heap.size, 2, none⟩ = some (.int .u64 (x : Nat)) := Below.keeps hk.ext _ _ (by simp [go_sem, hgt, h1, f1, f2, hBl])
          simp [Region.wanted, Oper.wp, Act.eval, go_sem, d116, gd, yielded, c0, c1, hgt, h1, f1, f2, hBl]
          exact hK _ _ (Below.refl _ _) rfl
          | 19, _ =>
          obtain rfl := Option.some.inj hoq
          intro a1 w1 K hk hK
          have d115 : a1.tmps.getD 115 undef = .int .u64 (x : Nat) := hk.deps ⟨16, .data⟩ (by simp) rfl _ _ rfl rfl
          have d117 : a1.tmps.getD 117 undef = .int .u64 (x : Nat) := hk.deps ⟨18, .data⟩ (by simp) rfl _ _ rfl rfl
          have gd : a1.tmps[114]? = some (.bool true) := getD_bool (hk.deps ⟨15, .guard⟩ (by simp) rfl _ _ rfl rfl)
          simp [Region.wanted, Oper.wp, Act.eval, go_sem, d115, d117, gd, yielded, hgt, h1, f1, f2, hBl]
          exact hK _ _ (Below.refl _ _) rfl
          | 20, _ =>
          obtain rfl := Option.some.inj hoq
          intro a1 w1 K hk hK
          have d114 : a1.tmps.getD 114 undef = .bool true := hk.deps ⟨15, .data⟩ (by simp) rfl _ _ rfl rfl
          have d118 : a1.tmps.getD 118 undef = .bool true := hk.deps ⟨19, .data⟩ (by simp) rfl _ _ rfl rfl
          have gd : a1.tmps[112]? = some (.bool true) := getD_bool (hk.deps ⟨13, .guard⟩ (by simp) rfl _ _ rfl rfl)
          simp [Region.wanted, Oper.wp, Act.eval, go_sem, d114, d118, gd, yielded, hgt, h1, f1, f2, hBl]
          exact hK _ _ (Below.refl _ _) rfl
          | 21, _ =>
          obtain rfl := Option.some.inj hoq
          intro a1 w1 K hk hK
          have e14 : a1.tmps.getD 14 undef = .pointer (some ⟨g, 0, none⟩) := hk.same 14 (by simp)
          have gd : a1.tmps[112]? = some (.bool true) := getD_bool (hk.deps ⟨13, .guard⟩ (by simp) rfl _ _ rfl rfl)
          simp [Region.wanted, Oper.wp, Act.eval, go_sem, e14, gd, yielded, hgt, h1, f1, f2, hBl]
          exact hK _ _ (Below.refl _ _) rfl
          | 22, _ =>
          obtain rfl := Option.some.inj hoq
          intro a1 w1 K hk hK
          have e0 : a1.tmps.getD 0 undef = .pointer (some ⟨g, 0, none⟩) := hk.same 0 (by simp)
          have gd : a1.tmps[112]? = some (.bool true) := getD_bool (hk.deps ⟨13, .guard⟩ (by simp) rfl _ _ rfl rfl)
          simp [Region.wanted, Oper.wp, Act.eval, go_sem, e0, gd, yielded, hgt, h1, f1, f2, hBl]
          exact hK _ _ (Below.refl _ _) rfl
          | 23, _ =>
          obtain rfl := Option.some.inj hoq
          intro a1 w1 K hk hK
          have d120 : a1.tmps.getD 120 undef = .pointer (some ⟨g, 0, none⟩) := hk.deps ⟨21, .data⟩ (by simp) rfl _ _ rfl rfl
          have d121 : a1.tmps.getD 121 undef = .pointer (some ⟨g, 0, none⟩) := hk.deps ⟨22, .data⟩ (by simp) rfl _ _ rfl rfl
          have gd : a1.tmps[112]? = some (.bool true) := getD_bool (hk.deps ⟨13, .guard⟩ (by simp) rfl _ _ rfl rfl)
          simp [Region.wanted, Oper.wp, Act.eval, go_sem, d120, d121, gd, yielded, hgt, h1, f1, f2, hBl]
          rw [HEQ.out w1 (below_trans (by repeat (first | exact Below.refl _ _ | (refine Below.drew ?_) | (refine below_drewN' ?_ _) | (refine below_alloc' ?_ _) | (refine Below.setCell ?_ (by first | exact Nat.le_refl _ | (simp; done) | (simp; omega)) _))) hk.ext)]
          exact hK _ _ (Below.refl _ _) rfl
          | 24, _ =>
          obtain rfl := Option.some.inj hoq
          intro a1 w1 K hk hK
          have d119 : a1.tmps.getD 119 undef = .bool true := hk.deps ⟨20, .data⟩ (by simp) rfl _ _ rfl rfl
          have d122 : a1.tmps.getD 122 undef = .bool true := hk.deps ⟨23, .data⟩ (by simp) rfl _ _ rfl rfl
          have gd : a1.tmps[112]? = some (.bool true) := getD_bool (hk.deps ⟨13, .guard⟩ (by simp) rfl _ _ rfl rfl)
          simp [Region.wanted, Oper.wp, Act.eval, go_sem, d119, d122, gd, yielded, hgt, h1, f1, f2, hBl]
          exact hK _ _ (Below.refl _ _) rfl
          | 25, _ =>
          obtain rfl := Option.some.inj hoq
          intro a1 w1 K hk hK
          have d112 : a1.tmps.getD 112 undef = .bool true := hk.deps ⟨13, .data⟩ (by simp) rfl _ _ rfl rfl
          have d123 : a1.tmps.getD 123 undef = .bool true := hk.deps ⟨24, .data⟩ (by simp) rfl _ _ rfl rfl
          simp [Region.wanted, Oper.wp, Act.eval, go_sem, d112, d123, hgt, h1, f1, f2, hBl]
          exact hK _ _ (Below.refl _ _) rfl
          | 26, _ =>
          obtain rfl := Option.some.inj hoq
          intro a1 w1 K hk hK
          have d99 : a1.tmps.getD 99 undef = .pointer (some ⟨g, 0, none⟩) := hk.deps ⟨0, .data⟩ (by simp) rfl _ _ rfl rfl
          simp [Region.wanted, Oper.wp, Act.eval, go_sem, d99, hgt, h1, f1, f2, hBl]
          exact hK _ _ (Below.refl _ _) rfl
          | 27, _ =>
          obtain rfl := Option.some.inj hoq
          intro a1 w1 K hk hK
          have D105 : RdE w1 (a1.tmps.getD 105 undef) (insE p x l) := hk.deps ⟨6, .data⟩ (by simp) rfl _ _ rfl rfl
          simp [Region.wanted, Oper.wp, Act.eval, go_sem, hgt, h1, f1, f2, hBl]
          exact hK _ _ (Below.refl _ _) (by simpa [nthV] using D105)
          | k + 28, hk => exact absurd hk (by omega)
        · intro vs w3 hl hb3 hv
          match vs, hl with
          | v0 :: v1 :: v2 :: v3 :: v4 :: v5 :: v6 :: v7 :: v8 :: v9 :: v10 :: v11 :: v12 :: v13 :: v14 :: v15 :: v16 :: v17 :: v18 :: v19 :: v20 :: v21 :: v22 :: v23 :: v24 :: v25 :: v26 :: v27 :: [], _ =>
          obtain rfl : v0 = .pointer (some ⟨g, 0, none⟩) := hv 0 (by omega)
          obtain rfl : v1 = .slice AI l.length cI := hv 1 (by omega)
          obtain rfl : v2 = .pointer (some ⟨w.heap.size, 1, none⟩) := hv 2 (by omega)
          obtain rfl : v3 = .slice A2 p.length c2 := hv 3 (by omega)
          obtain rfl : v4 = .pointer (some ⟨w.heap.size, 2, none⟩) := hv 4 (by omega)
          obtain rfl : v5 = .int .u64 (x : Nat) := hv 5 (by omega)
          have q6 : RdE w3 v6 (insE p x l) := hv 6 (by omega)
          obtain rfl : v7 = .int .i64 0 := hv 7 (by omega)
          obtain rfl : v8 = .bool true := hv 8 (by omega)
          obtain rfl : v9 = .bool true := hv 9 (by omega)
          obtain rfl : v10 = .pointer (some ⟨g, 0, none⟩) := hv 10 (by omega)
          obtain rfl : v11 = .bool true := hv 11 (by omega)
          obtain rfl : v12 = .bool true := hv 12 (by omega)
          obtain rfl : v13 = .bool true := hv 13 (by omega)
          obtain rfl : v14 = .bool true := hv 14 (by omega)
          obtain rfl : v15 = .bool true := hv 15 (by omega)
          obtain rfl : v16 = .int .u64 (x : Nat) := hv 16 (by omega)
          obtain rfl : v17 = .pointer (some ⟨w.heap.size, 2, none⟩) := hv 17 (by omega)
          obtain rfl : v18 = .int .u64 (x : Nat) := hv 18 (by omega)
          obtain rfl : v19 = .bool true := hv 19 (by omega)
          obtain rfl : v20 = .bool true := hv 20 (by omega)
          obtain rfl : v21 = .pointer (some ⟨g, 0, none⟩) := hv 21 (by omega)
          obtain rfl : v22 = .pointer (some ⟨g, 0, none⟩) := hv 22 (by omega)
          obtain rfl : v23 = .bool true := hv 23 (by omega)
          obtain rfl : v24 = .bool true := hv 24 (by omega)
          obtain rfl : v25 = .bool true := hv 25 (by omega)
          obtain rfl : v26 = .pointer (some ⟨g, 0, none⟩) := hv 26 (by omega)
          have q27 : RdE w3 v27 (insE p x l) := hv 27 (by omega)
          clear hv
          simp only [putAll, List.take_succ_cons, List.take_zero, List.drop_succ_cons, List.drop_zero, Act.put, List.setIfInBounds_toArray, List.set_cons_succ, List.set_cons_zero]
          have hb4 : Below w2.heap.size w2 w3 := below_trans (by repeat (first | exact Below.refl _ _ | (refine Below.drew ?_) | (refine below_drewN' ?_ _) | (refine below_alloc' ?_ _) | (refine Below.setCell ?_ (by first | exact Nat.le_refl _ | (simp; done) | (simp; omega)) _))) hb3
          have HF := Lib.hid (And.intro (HN2.out.1.bel hb4) (And.intro q27 (HN2.out.2.trans (hb4.mono HN2.out.2.size))))
          clear q6 q27 hb3 hb4
          go_wp2_with fail
          ((try simp only [Exit.inBlock, Exit.then]); refine bodyPost_ret (results_tmp3 rfl _ _ _) rfl ?_)
          rw [HST.out]
          exact ⟨g, _, rfl, HF.out⟩
      · have hgt : ¬ g = t := by have := HG.out.2 (by rw [hget]; simpa using hx); omega
        have h1 : ((x : Int) == (v : Int)) = false := by simp; omega
        have HEQ := Lib.hid (fun w3 (hb : Below w2.heap.size w2 w3) => tree_other (HN2.out.1.bel hb) ((HT.out.1.bel HN2.out.2).bel hb) hgt)
        have HGT := Lib.hid hget
        clear hget
        go_wp2_with fail
        refine wp_region_vals 28 [fun z9 _ => z9 = .pointer (some ⟨g, 0, none⟩),
          fun z9 _ => z9 = .slice AI l.length cI,
          fun z9 _ => z9 = .pointer (some ⟨w.heap.size, 1, none⟩),
          fun z9 _ => z9 = .slice A2 p.length c2,
          fun z9 _ => z9 = .pointer (some ⟨w.heap.size, 2, none⟩),
          fun z9 _ => z9 = .int .u64 (v : Nat),
          fun v9 w9 => RdE w9 v9 (insE p v l),
          fun z9 _ => z9 = .int .i64 0,
          fun z9 _ => z9 = .bool true,
          fun z9 _ => z9 = .bool true,
          fun z9 _ => z9 = .pointer (some ⟨g, 0, none⟩),
          fun z9 _ => z9 = .bool true,
          fun z9 _ => z9 = .bool true,
          fun z9 _ => z9 = .bool true,
          fun z9 _ => z9 = .bool true,
          fun z9 _ => z9 = .bool true,
          fun z9 _ => z9 = .int .u64 (x : Nat),
          fun z9 _ => z9 = .pointer (some ⟨w.heap.size, 2, none⟩),
          fun z9 _ => z9 = .int .u64 (v : Nat),
          fun z9 _ => z9 = .bool false,
          fun z9 _ => z9 = .bool false,
          fun z9 _ => z9 = .pointer (some ⟨g, 0, none⟩),
          fun z9 _ => z9 = .pointer (some ⟨t, 0, none⟩),
          fun z9 _ => z9 = .bool false,
          fun z9 _ => z9 = .bool true,
          fun z9 _ => z9 = .bool true,
          fun z9 _ => z9 = .pointer (some ⟨g, 0, none⟩),
          fun v9 w9 => RdE w9 v9 (insE p v l)]
          (by kernel_rfl) (by kernel_rfl) (by kernel_rfl) (by kernel_rfl) ?_ ?_ ?_
        · intro V hV v w1 w2 h hb
          simp only [List.mem_cons, List.not_mem_nil, or_false] at hV
          rcases hV with rfl | rfl | rfl | rfl | rfl | rfl | rfl | rfl | rfl | rfl | rfl | rfl | rfl | rfl | rfl | rfl | rfl | rfl | rfl | rfl | rfl | rfl | rfl | rfl | rfl | rfl | rfl | rfl
          all_goals first | exact h | (exact RdE.below h hb)
        · intro iq oq hiq hoq
          match iq, hiq with
          | 0, _ =>
          obtain rfl := Option.some.inj hoq
          intro a1 w1 K hk hK
          have e14 : a1.tmps.getD 14 undef = .pointer (some ⟨g, 0, none⟩) := hk.same 14 (by simp)
          simp [Region.wanted, Oper.wp, Act.eval, go_sem, e14, hgt, h1, f1, f2, hBl]
          exact hK _ _ (Below.refl _ _) rfl
          | 1, _ =>
          obtain rfl := Option.some.inj hoq
          intro a1 w1 K hk hK
          have e1 : a1.tmps.getD 1 undef = .slice AI l.length cI := hk.same 1 (by simp)
          simp [Region.wanted, Oper.wp, Act.eval, go_sem, e1, hgt, h1, f1, f2, hBl]
          exact hK _ _ (Below.refl _ _) rfl
          | 2, _ =>
          obtain rfl := Option.some.inj hoq
          intro a1 w1 K hk hK
          have e5 : a1.tmps.getD 5 undef = .pointer (some ⟨w.heap.size, 0, none⟩) := hk.same 5 (by simp)
          simp [Region.wanted, Oper.wp, Act.eval, go_sem, e5, hgt, h1, f1, f2, hBl]
          exact hK _ _ (Below.refl _ _) rfl
          | 3, _ =>
          obtain rfl := Option.some.inj hoq
          intro a1 w1 K hk hK
          have d101 : a1.tmps.getD 101 undef = .pointer (some ⟨w.heap.size, 1, none⟩) := hk.deps ⟨2, .data⟩ (by simp) rfl _ _ rfl rfl
          have c0 : w1.cell? ⟨w.heap.size, 1, none⟩ = some (.slice A2 p.length c2) := Below.keeps hk.ext _ _ (by simp [go_sem, hgt, h1, f1, f2, hBl])
          have c1 : w1.cell? ⟨w.heap.size, 2, none⟩ = some (.int .u64 (v : Nat)) := Below.keeps hk.ext _ _ (by simp [go_sem, hgt, h1, f1, f2, hBl])
          simp [Region.wanted, Oper.wp, Act.eval, go_sem, d101, c0, c1, hgt, h1, f1, f2, hBl]
          exact hK _ _ (Below.refl _ _) rfl
          | 4, _ =>
          obtain rfl := Option.some.inj hoq
          intro a1 w1 K hk hK
          have e5 : a1.tmps.getD 5 undef = .pointer (some ⟨w.heap.size, 0, none⟩) := hk.same 5 (by simp)
          simp [Region.wanted, Oper.wp, Act.eval, go_sem, e5, hgt, h1, f1, f2, hBl]
          exact hK _ _ (Below.refl _ _) rfl
          | 5, _ =>
          obtain rfl := Option.some.inj hoq
          intro a1 w1 K hk hK
          have d103 : a1.tmps.getD 103 undef = .pointer (some ⟨w.heap.size, 2, none⟩) := hk.deps ⟨4, .data⟩ (by simp) rfl _ _ rfl rfl
          have c0 : w1.cell? ⟨w.heap.size, 1, none⟩ = some (.slice A2 p.length c2) := Below.keeps hk.ext _ _ (by simp [go_sem, hgt, h1, f1, f2, hBl])
          have c1 : w1.cell? ⟨w.heap.size, 2, none⟩ = some (.int .u64 (v : Nat)) := Below.keeps hk.ext _ _ (by simp [go_sem, hgt, h1, f1, f2, hBl])
          simp [Region.wanted, Oper.wp, Act.eval, go_sem, d103, c0, c1, hgt, h1, f1, f2, hBl]
          exact hK _ _ (Below.refl _ _) rfl
          | 6, _ =>
          obtain rfl := Option.some.inj hoq
          intro a1 w1 K hk hK
          have d100 : a1.tmps.getD 100 undef = .slice AI l.length cI := hk.deps ⟨1, .data⟩ (by simp) rfl _ _ rfl rfl
          have d102 : a1.tmps.getD 102 undef = .slice A2 p.length c2 := hk.deps ⟨3, .data⟩ (by simp) rfl _ _ rfl rfl
          have d104 : a1.tmps.getD 104 undef = .int .u64 (v : Nat) := hk.deps ⟨5, .data⟩ (by simp) rfl _ _ rfl rfl
          simp [Region.wanted, Oper.wp, Act.eval, go_sem, d100, d102, d104, hgt, h1, f1, f2, hBl]
          refine (HRP.out _ (HN2.out.2.trans ((show Below w2.heap.size w2 _ from below_trans (by repeat (first | exact Below.refl _ _ | (refine Below.drew ?_) | (refine below_drewN' ?_ _) | (refine below_alloc' ?_ _) | (refine Below.setCell ?_ (by first | exact Nat.le_refl _ | (simp; done) | (simp; omega)) _))) hk.ext).mono HN2.out.2.size))).mono ?_
          rintro e w9 ⟨v9, rfl, h9, hb9⟩
          exact hK _ _ hb9 h9
          | 7, _ =>
          obtain rfl := Option.some.inj hoq
          intro a1 w1 K hk hK
          have e15 : a1.tmps.getD 15 undef = .int .i64 0 := hk.same 15 (by simp)
          simp [Region.wanted, Oper.wp, Act.eval, go_sem, e15, hgt, h1, f1, f2, hBl]
          exact hK _ _ (Below.refl _ _) rfl
          | 8, _ =>
          obtain rfl := Option.some.inj hoq
          intro a1 w1 K hk hK
          have d106 : a1.tmps.getD 106 undef = .int .i64 0 := hk.deps ⟨7, .data⟩ (by simp) rfl _ _ rfl rfl
          simp [Region.wanted, Oper.wp, Act.eval, go_sem, d106, hgt, h1, f1, f2, hBl]
          exact hK _ _ (Below.refl _ _) rfl
          | 9, _ =>
          obtain rfl := Option.some.inj hoq
          intro a1 w1 K hk hK
          have d107 : a1.tmps.getD 107 undef = .bool true := hk.deps ⟨8, .data⟩ (by simp) rfl _ _ rfl rfl
          simp [Region.wanted, Oper.wp, Act.eval, go_sem, d107, hgt, h1, f1, f2, hBl]
          exact hK _ _ (Below.refl _ _) rfl
          | 10, _ =>
          obtain rfl := Option.some.inj hoq
          intro a1 w1 K hk hK
          have e14 : a1.tmps.getD 14 undef = .pointer (some ⟨g, 0, none⟩) := hk.same 14 (by simp)
          have gd : a1.tmps[108]? = some (.bool true) := getD_bool (hk.deps ⟨9, .guard⟩ (by simp) rfl _ _ rfl rfl)
          simp [Region.wanted, Oper.wp, Act.eval, go_sem, e14, gd, yielded, hgt, h1, f1, f2, hBl]
          exact hK _ _ (Below.refl _ _) rfl
          | 11, _ =>
          obtain rfl := Option.some.inj hoq
          intro a1 w1 K hk hK
          have d109 : a1.tmps.getD 109 undef = .pointer (some ⟨g, 0, none⟩) := hk.deps ⟨10, .data⟩ (by simp) rfl _ _ rfl rfl
          have gd : a1.tmps[108]? = some (.bool true) := getD_bool (hk.deps ⟨9, .guard⟩ (by simp) rfl _ _ rfl rfl)
          simp [Region.wanted, Oper.wp, Act.eval, go_sem, d109, gd, yielded, hgt, h1, f1, f2, hBl]
          exact hK _ _ (Below.refl _ _) rfl
          | 12, _ =>
          obtain rfl := Option.some.inj hoq
          intro a1 w1 K hk hK
          have d108 : a1.tmps.getD 108 undef = .bool true := hk.deps ⟨9, .data⟩ (by simp) rfl _ _ rfl rfl
          have d110 : a1.tmps.getD 110 undef = .bool true := hk.deps ⟨11, .data⟩ (by simp) rfl _ _ rfl rfl
          simp [Region.wanted, Oper.wp, Act.eval, go_sem, d108, d110, hgt, h1, f1, f2, hBl]
          exact hK _ _ (Below.refl _ _) rfl
          | 13, _ =>
          obtain rfl := Option.some.inj hoq
          intro a1 w1 K hk hK
          have d111 : a1.tmps.getD 111 undef = .bool true := hk.deps ⟨12, .data⟩ (by simp) rfl _ _ rfl rfl
          simp [Region.wanted, Oper.wp, Act.eval, go_sem, d111, hgt, h1, f1, f2, hBl]
          exact hK _ _ (Below.refl _ _) rfl
          | 14, _ =>
          obtain rfl := Option.some.inj hoq
          intro a1 w1 K hk hK
          have e17 : a1.tmps.getD 17 undef = .bool true := hk.same 17 (by simp)
          have gd : a1.tmps[112]? = some (.bool true) := getD_bool (hk.deps ⟨13, .guard⟩ (by simp) rfl _ _ rfl rfl)
          simp [Region.wanted, Oper.wp, Act.eval, go_sem, e17, gd, yielded, hgt, h1, f1, f2, hBl]
          exact hK _ _ (Below.refl _ _) rfl
          | 15, _ =>
          obtain rfl := Option.some.inj hoq
          intro a1 w1 K hk hK
          have d113 : a1.tmps.getD 113 undef = .bool true := hk.deps ⟨14, .data⟩ (by simp) rfl _ _ rfl rfl
          have gd : a1.tmps[112]? = some (.bool true) := getD_bool (hk.deps ⟨13, .guard⟩ (by simp) rfl _ _ rfl rfl)
          simp [Region.wanted, Oper.wp, Act.eval, go_sem, d113, gd, yielded, hgt, h1, f1, f2, hBl]
          exact hK _ _ (Below.refl _ _) rfl
          | 16, _ =>
          obtain rfl := Option.some.inj hoq
          intro a1 w1 K hk hK
          have e16 : a1.tmps.getD 16 undef = .int .u64 (x : Nat) := hk.same 16 (by simp)
          have gd : a1.tmps[114]? = some (.bool true) := getD_bool (hk.deps ⟨15, .guard⟩ (by simp) rfl _ _ rfl rfl)
          simp [Region.wanted, Oper.wp, Act.eval, go_sem, e16, gd, yielded, hgt, h1, f1, f2, hBl]
          exact hK _ _ (Below.refl _ _) rfl
          | 17, _ =>
          obtain rfl := Option.some.inj hoq
          intro a1 w1 K hk hK
          have e5 : a1.tmps.getD 5 undef = .pointer (some ⟨w.heap.size, 0, none⟩) := hk.same 5 (by simp)
          have gd : a1.tmps[114]? = some (.bool true) := getD_bool (hk.deps ⟨15, .guard⟩ (by simp) rfl _ _ rfl rfl)
          simp [Region.wanted, Oper.wp, Act.eval, go_sem, e5, gd, yielded, hgt, h1, f1, f2, hBl]
          exact hK _ _ (Below.refl _ _) rfl
          | 18, _ =>
          obtain rfl := Option.some.inj hoq
          intro a1 w1 K hk hK
          have d116 : a1.tmps.getD 116 undef = .pointer (some ⟨w.heap.size, 2, none⟩) := hk.deps ⟨17, .data⟩ (by simp) rfl _ _ rfl rfl
          have gd : a1.tmps[114]? = some (.bool true) := getD_bool (hk.deps ⟨15, .guard⟩ (by simp) rfl _ _ rfl rfl)
          have c0 : w1.cell? ⟨w.heap.size, 1, none⟩ = some (.slice A2 p.length c2) := Below.keeps hk.ext _ _ (by simp [go_sem, hgt, h1, f1, f2, hBl])
          have c1 : w1.cell? ⟨w.heap.size, 2, none⟩ = some (.int .u64 (v : Nat)) := Below.keeps hk.ext _ _ (by simp [go_sem, hgt, h1, f1, f2, hBl])
          simp [Region.wanted, Oper.wp, Act.eval, go_sem, d116, gd, yielded, c0, c1, hgt, h1, f1, f2, hBl]
          exact hK _ _ (Below.refl _ _) rfl
          | 19, _ =>
          obtain rfl := Option.some.inj hoq
          intro a1 w1 K hk hK
          have d115 : a1.tmps.getD 115 undef = .int .u64 (x : Nat) := hk.deps ⟨16, .data⟩ (by simp) rfl _ _ rfl rfl
          have d117 : a1.tmps.getD 117 undef = .int .u64 (v : Nat) := hk.deps ⟨18, .data⟩ (by simp) rfl _ _ rfl rfl
          have gd : a1.tmps[114]? = some (.bool true) := getD_bool (hk.deps ⟨15, .guard⟩ (by simp) rfl _ _ rfl rfl)
          simp [Region.wanted, Oper.wp, Act.eval, go_sem, d115, d117, gd, yielded, hgt, h1, f1, f2, hBl]
          exact hK _ _ (Below.refl _ _) rfl
          | 20, _ =>
          obtain rfl := Option.some.inj hoq
          intro a1 w1 K hk hK
          have d114 : a1.tmps.getD 114 undef = .bool true := hk.deps ⟨15, .data⟩ (by simp) rfl _ _ rfl rfl
          have d118 : a1.tmps.getD 118 undef = .bool false := hk.deps ⟨19, .data⟩ (by simp) rfl _ _ rfl rfl
          have gd : a1.tmps[112]? = some (.bool true) := getD_bool (hk.deps ⟨13, .guard⟩ (by simp) rfl _ _ rfl rfl)
          simp [Region.wanted, Oper.wp, Act.eval, go_sem, d114, d118, gd, yielded, hgt, h1, f1, f2, hBl]
          exact hK _ _ (Below.refl _ _) rfl
          | 21, _ =>
          obtain rfl := Option.some.inj hoq
          intro a1 w1 K hk hK
          have e14 : a1.tmps.getD 14 undef = .pointer (some ⟨g, 0, none⟩) := hk.same 14 (by simp)
          have gd : a1.tmps[112]? = some (.bool true) := getD_bool (hk.deps ⟨13, .guard⟩ (by simp) rfl _ _ rfl rfl)
          simp [Region.wanted, Oper.wp, Act.eval, go_sem, e14, gd, yielded, hgt, h1, f1, f2, hBl]
          exact hK _ _ (Below.refl _ _) rfl
          | 22, _ =>
          obtain rfl := Option.some.inj hoq
          intro a1 w1 K hk hK
          have e0 : a1.tmps.getD 0 undef = .pointer (some ⟨t, 0, none⟩) := hk.same 0 (by simp)
          have gd : a1.tmps[112]? = some (.bool true) := getD_bool (hk.deps ⟨13, .guard⟩ (by simp) rfl _ _ rfl rfl)
          simp [Region.wanted, Oper.wp, Act.eval, go_sem, e0, gd, yielded, hgt, h1, f1, f2, hBl]
          exact hK _ _ (Below.refl _ _) rfl
          | 23, _ =>
          obtain rfl := Option.some.inj hoq
          intro a1 w1 K hk hK
          have d120 : a1.tmps.getD 120 undef = .pointer (some ⟨g, 0, none⟩) := hk.deps ⟨21, .data⟩ (by simp) rfl _ _ rfl rfl
          have d121 : a1.tmps.getD 121 undef = .pointer (some ⟨t, 0, none⟩) := hk.deps ⟨22, .data⟩ (by simp) rfl _ _ rfl rfl
          have gd : a1.tmps[112]? = some (.bool true) := getD_bool (hk.deps ⟨13, .guard⟩ (by simp) rfl _ _ rfl rfl)
          simp [Region.wanted, Oper.wp, Act.eval, go_sem, d120, d121, gd, yielded, hgt, h1, f1, f2, hBl]
          rw [HEQ.out w1 (below_trans (by repeat (first | exact Below.refl _ _ | (refine Below.drew ?_) | (refine below_drewN' ?_ _) | (refine below_alloc' ?_ _) | (refine Below.setCell ?_ (by first | exact Nat.le_refl _ | (simp; done) | (simp; omega)) _))) hk.ext)]
          exact hK _ _ (Below.refl _ _) rfl
          | 24, _ =>
          obtain rfl := Option.some.inj hoq
          intro a1 w1 K hk hK
          have d119 : a1.tmps.getD 119 undef = .bool false := hk.deps ⟨20, .data⟩ (by simp) rfl _ _ rfl rfl
          have d122 : a1.tmps.getD 122 undef = .bool false := hk.deps ⟨23, .data⟩ (by simp) rfl _ _ rfl rfl
          have gd : a1.tmps[112]? = some (.bool true) := getD_bool (hk.deps ⟨13, .guard⟩ (by simp) rfl _ _ rfl rfl)
          simp [Region.wanted, Oper.wp, Act.eval, go_sem, d119, d122, gd, yielded, hgt, h1, f1, f2, hBl]
          exact hK _ _ (Below.refl _ _) rfl
          | 25, _ =>
          obtain rfl := Option.some.inj hoq
          intro a1 w1 K hk hK
          have d112 : a1.tmps.getD 112 undef = .bool true := hk.deps ⟨13, .data⟩ (by simp) rfl _ _ rfl rfl
          have d123 : a1.tmps.getD 123 undef = .bool true := hk.deps ⟨24, .data⟩ (by simp) rfl _ _ rfl rfl
          simp [Region.wanted, Oper.wp, Act.eval, go_sem, d112, d123, hgt, h1, f1, f2, hBl]
          exact hK _ _ (Below.refl _ _) rfl
          | 26, _ =>
          obtain rfl := Option.some.inj hoq
          intro a1 w1 K hk hK
          have d99 : a1.tmps.getD 99 undef = .pointer (some ⟨g, 0, none⟩) := hk.deps ⟨0, .data⟩ (by simp) rfl _ _ rfl rfl
          simp [Region.wanted, Oper.wp, Act.eval, go_sem, d99, hgt, h1, f1, f2, hBl]
          exact hK _ _ (Below.refl _ _) rfl
          | 27, _ =>
          obtain rfl := Option.some.inj hoq
          intro a1 w1 K hk hK
          have D105 : RdE w1 (a1.tmps.getD 105 undef) (insE p v l) := hk.deps ⟨6, .data⟩ (by simp) rfl _ _ rfl rfl
          simp [Region.wanted, Oper.wp, Act.eval, go_sem, hgt, h1, f1, f2, hBl]
          exact hK _ _ (Below.refl _ _) (by simpa [nthV] using D105)
          | k + 28, hk => exact absurd hk (by omega)
        · intro vs w3 hl hb3 hv
          match vs, hl with
          | v0 :: v1 :: v2 :: v3 :: v4 :: v5 :: v6 :: v7 :: v8 :: v9 :: v10 :: v11 :: v12 :: v13 :: v14 :: v15 :: v16 :: v17 :: v18 :: v19 :: v20 :: v21 :: v22 :: v23 :: v24 :: v25 :: v26 :: v27 :: [], _ =>
          obtain rfl : v0 = .pointer (some ⟨g, 0, none⟩) := hv 0 (by omega)
          obtain rfl : v1 = .slice AI l.length cI := hv 1 (by omega)
          obtain rfl : v2 = .pointer (some ⟨w.heap.size, 1, none⟩) := hv 2 (by omega)
          obtain rfl : v3 = .slice A2 p.length c2 := hv 3 (by omega)
          obtain rfl : v4 = .pointer (some ⟨w.heap.size, 2, none⟩) := hv 4 (by omega)
          obtain rfl : v5 = .int .u64 (v : Nat) := hv 5 (by omega)
          have q6 : RdE w3 v6 (insE p v l) := hv 6 (by omega)
          obtain rfl : v7 = .int .i64 0 := hv 7 (by omega)
          obtain rfl : v8 = .bool true := hv 8 (by omega)
          obtain rfl : v9 = .bool true := hv 9 (by omega)
          obtain rfl : v10 = .pointer (some ⟨g, 0, none⟩) := hv 10 (by omega)
          obtain rfl : v11 = .bool true := hv 11 (by omega)
          obtain rfl : v12 = .bool true := hv 12 (by omega)
          obtain rfl : v13 = .bool true := hv 13 (by omega)
          obtain rfl : v14 = .bool true := hv 14 (by omega)
          obtain rfl : v15 = .bool true := hv 15 (by omega)
          obtain rfl : v16 = .int .u64 (x : Nat) := hv 16 (by omega)
          obtain rfl : v17 = .pointer (some ⟨w.heap.size, 2, none⟩) := hv 17 (by omega)
          obtain rfl : v18 = .int .u64 (v : Nat) := hv 18 (by omega)
          obtain rfl : v19 = .bool false := hv 19 (by omega)
          obtain rfl : v20 = .bool false := hv 20 (by omega)
          obtain rfl : v21 = .pointer (some ⟨g, 0, none⟩) := hv 21 (by omega)
          obtain rfl : v22 = .pointer (some ⟨t, 0, none⟩) := hv 22 (by omega)
          obtain rfl : v23 = .bool false := hv 23 (by omega)
          obtain rfl : v24 = .bool true := hv 24 (by omega)
          obtain rfl : v25 = .bool true := hv 25 (by omega)
          obtain rfl : v26 = .pointer (some ⟨g, 0, none⟩) := hv 26 (by omega)
          have q27 : RdE w3 v27 (insE p v l) := hv 27 (by omega)
          clear hv
          simp only [putAll, List.take_succ_cons, List.take_zero, List.drop_succ_cons, List.drop_zero, Act.put, List.setIfInBounds_toArray, List.set_cons_succ, List.set_cons_zero]
          have hb4 : Below w2.heap.size w2 w3 := below_trans (by repeat (first | exact Below.refl _ _ | (refine Below.drew ?_) | (refine below_drewN' ?_ _) | (refine below_alloc' ?_ _) | (refine Below.setCell ?_ (by first | exact Nat.le_refl _ | (simp; done) | (simp; omega)) _))) hb3
          have HF := Lib.hid (And.intro (HN2.out.1.bel hb4) (And.intro q27 (HN2.out.2.trans (hb4.mono HN2.out.2.size))))
          clear q6 q27 hb3 hb4
          go_wp2_with fail
          ((try simp only [Exit.inBlock, Exit.then]); refine bodyPost_ret (results_tmp3 rfl _ _ _) rfl ?_)
          rw [HST.out]
          exact ⟨g, _, rfl, HF.out⟩
  · have HTD := Lib.hid (fun w1 (hb : Below w.heap.size w w1) => tput_dim w1 t k p.length c2 v A2 l (ht.bel hb) hk)
    have HST := Lib.hid (show stepL k l ⟨false, p, v⟩ = l by unfold stepL; rw [if_neg hk])
    have hn : ((p.length : Int) != (k : Int)) = true := by simp; omega
    have hn2 : ¬ (p.length : Int) = (k : Int) := by omega
    clear ht hp ho hl hk
    go_enter Tryz.func51, Tryz.ntmps51
    go_wp2_with fail
    refine (HTK.out _ (by repeat (first | exact Below.refl _ _ | (refine Below.drew ?_) | (refine below_drewN' ?_ _) | (refine below_alloc' ?_ _) | (refine Below.setCell ?_ (by first | exact Nat.le_refl _ | (simp; done) | (simp; omega)) _)))).mono ?_
    rintro e w1 ⟨rfl, hw⟩
    obtain rfl := hw.symm
    go_wp2_with fail
    refine (HTD.out _ (by repeat (first | exact Below.refl _ _ | (refine Below.drew ?_) | (refine below_drewN' ?_ _) | (refine below_alloc' ?_ _) | (refine Below.setCell ?_ (by first | exact Nat.le_refl _ | (simp; done) | (simp; omega)) _)))).mono ?_
    rintro e w1 ⟨rfl, hw⟩
    obtain rfl := hw.symm
    go_wp2_with fail
    ((try simp only [Exit.inBlock, Exit.then]); refine bodyPost_ret (results_tmp3 rfl _ _ _) rfl ?_)
    rw [HST.out]
    exact ⟨t, _, rfl, HT.out.1.bel (by repeat (first | exact Below.refl _ _ | (refine Below.drew ?_) | (refine below_drewN' ?_ _) | (refine below_alloc' ?_ _) | (refine Below.setCell ?_ (by first | exact Nat.le_refl _ | (simp; done) | (simp; omega)) _))), HT.out.2.below (by repeat (first | exact Below.refl _ _ | (refine Below.drew ?_) | (refine below_drewN' ?_ _) | (refine below_alloc' ?_ _) | (refine Below.setCell ?_ (by first | exact Nat.le_refl _ | (simp; done) | (simp; omega)) _))), (by repeat (first | exact Below.refl _ _ | (refine Below.drew ?_) | (refine below_drewN' ?_ _) | (refine below_alloc' ?_ _) | (refine Below.setCell ?_ (by first | exact Nat.le_refl _ | (simp; done) | (simp; omega)) _)))⟩
theorem done_any (w : World) (t k : Nat) (a : Ac) (l : List En) (vin vp : Value) (ht : TrR w t k l) (hin : RdE w vin l) (hl : EtS k l) (hp : RdU w vp (pti a.p)) (ho : a.Ok) :
    Calls Tryz.prog 51 #[.pointer (some ⟨t, 0, none⟩), vin, .agg #[.bool a.del, vp, .int .u64 (a.v : Nat)]] w fun e w' => DoneP w k (stepL k l a) e w' := by
  obtain ⟨d, p, v⟩ := a
  cases d with
  | true => exact done_del w t k p v l vin vp ht hin hl hp ho
  | false => exact done_put w t k p v l vin vp ht hin hl hp ho
end Go.Proofs.YtjokcagggmjgmaaGreat
/-! TrG -/
namespace Go.Proofs.YtjokcagggmjgmaaGreat
open Go.RowKit
set_option linter.unusedVariables false
set_option linter.unusedSimpArgs false

/-- an act at a block's offset -/
def AcAt (w : World) (b o : Nat) (a : Ac) : Prop := ∃ u, w.cell? ⟨b, o, none⟩ = some (.bool a.del) ∧ w.cell? ⟨b, o + 1, none⟩ = some u ∧ RdU w u (pti a.p) ∧ w.cell? ⟨b, o + 2, none⟩ = some (.int .u64 (a.v : Nat))
theorem AcAt.keep {w w' : World} {b o : Nat} {a : Ac} (h : AcAt w b o a) (hk : ∀ a x, w.cell? a = some x → w'.cell? a = some x) : AcAt w' b o a := by
  obtain ⟨u, h0, h1, h2, h3⟩ := h
  exact ⟨u, hk _ _ h0, hk _ _ h1, RdU.keep h2 hk, hk _ _ h3⟩
/-- the slice value v reads as the list l of acts -/
def RdA (w : World) (v : Value) (l : List Ac) : Prop :=
  ∃ A c, v = .slice A l.length c ∧ (0 < l.length → ∃ b o, A = some ⟨b, o, none⟩ ∧ ∀ j (h : j < l.length), AcAt w b (o + j * 3) l[j])
theorem RdA.keep {w w' : World} {v : Value} {l : List Ac} (h : RdA w v l) (hk : ∀ a x, w.cell? a = some x → w'.cell? a = some x) : RdA w' v l := by
  obtain ⟨A, c, e, h⟩ := h
  exact ⟨A, c, e, fun hp => let ⟨b, o, ha, hc⟩ := h hp; ⟨b, o, ha, fun j hj => (hc j hj).keep hk⟩⟩
theorem RdA.below {w w' : World} {v : Value} {l : List Ac} (h : RdA w v l) (hb : Below w.heap.size w w') : RdA w' v l := RdA.keep h (Below.keeps hb)
def playL (k : Nat) (l : List En) (acts : List Ac) : List En := acts.foldl (stepL k) l
theorem play_take (k : Nat) (l : List En) (acts : List Ac) (j : Nat) (h : j < acts.length) : playL k l (acts.take (j + 1)) = stepL k (playL k l (acts.take j)) acts[j] := by
  unfold playL
  rw [← List.take_append_getElem h, List.foldl_append]
  rfl
theorem play_len (k : Nat) (l : List En) (acts : List Ac) : (playL k l acts).length ≤ l.length + acts.length := by
  induction acts generalizing l with
  | nil => exact Nat.le_refl _
  | cons a acts ih =>
    have h1 := ih (stepL k l a)
    have h2 := step_len k l a
    show (playL k (stepL k l a) acts).length ≤ _
    simp only [List.length_cons]
    omega
theorem Et.play {k : Nat} {l : List En} (h : Et k l) (acts : List Ac) (ho : ∀ a ∈ acts, a.Ok) : Et k (playL k l acts) := by
  induction acts generalizing l with
  | nil => exact h
  | cons a acts ih => exact ih (h.step a (ho a (by simp))) fun b hb => ho b (by simp [hb])
theorem EtS.play {k : Nat} {l : List En} (h : EtS k l) (acts : List Ac) (ho : ∀ a ∈ acts, a.Ok) (hs : l.length + acts.length ≤ 1000) : EtS k (playL k l acts) :=
  ⟨h.et.play acts ho, h.k40, Nat.le_trans (play_len k l acts) hs⟩
def heavyL (l : List Ac) (most : Int) : Bool := decide ((l.length : Int) > most) || l.any fun a => decide (a.p.length > 40)
set_option maxRecDepth 100000
theorem heavyA_any (w : World) (l : List Ac) (v : Value) (most : Int) (hv : RdA w v l) (hl : l.length ≤ maxLen) :
    Calls Tryz.prog 12 #[v, .int .i64 most] w fun e w' => e = .returned (.bool (heavyL l most)) ∧ w' = w := by
  obtain ⟨A, c, rfl, hx⟩ := hv
  have HX := Lib.hid hx
  have HL := Lib.hid (show l.length ≤ 9223372036854775807 from Nat.le_trans hl (by decide))
  clear hx hl
  by_cases hm : (l.length : Int) > most
  · have HH := Lib.hid (show heavyL l most = true by unfold heavyL; rw [decide_eq_true hm]; rfl)
    go_enter Tryz.func12, Tryz.ntmps12
    go_wp2_with fail
    go_ret
    exact ⟨by rw [HH.out] <;> rfl, rfl⟩
  · have hh : heavyL l most = l.any fun a => decide (a.p.length > 40) := by unfold heavyL; rw [decide_eq_false hm]; rfl
    have HH := Lib.hid hh
    clear hh
    go_enter Tryz.func12, Tryz.ntmps12
    go_wp2_with fail
    go_loopw [5] (fun iv wr => ∃ j : Nat, j ≤ l.length ∧ iv = .int .i64 (j : Nat) ∧ wr = w ∧ (l.take j).any (fun a => decide (a.p.length > 40)) = false) (fun iv _ => l.length - (intOf iv).toNat)
    case atStart => exact ⟨0, Nat.zero_le _, rfl, rfl, by simp⟩
    case round =>
      obtain ⟨j, hj, rfl, hw, hany⟩ := hrel
      subst hw
      by_cases hlt : j < l.length
      · have h3 : (j : Int) < (l.length : Int) := by omega
        have h5 : (0 : Int) ≤ (j : Int) := by omega
        have HW := Lib.hid (show wrap64 ((j : Int) + 1) = ((j + 1 : Nat) : Int) by have := HL.out; unfold wrap64; omega)
        obtain ⟨b2, o2, rfl, hc⟩ := HX.out (by omega)
        obtain ⟨u, k0, k1, ku, k2⟩ := hc j hlt
        have htk : (l.take (j + 1)).any (fun a => decide (a.p.length > 40)) = decide (l[j].p.length > 40) := by rw [← List.take_append_getElem hlt, List.any_append, hany]; simp
        have hall : decide (l[j].p.length > 40) = true → (l.any fun a => decide (a.p.length > 40)) = true := fun h => List.any_eq_true.2 ⟨_, List.getElem_mem hlt, h⟩
        have HT := Lib.hid (And.intro htk hall)
        have hlb := World.block_lt_of_cell? _ _ k0
        obtain ⟨Au, cu, rfl, _⟩ := RdU.point ku
        generalize l[j] = ac at *
        clear hc htk hall ku hany
        by_cases h40 : (ac.p.length : Int) > 40
        · go_wp2_with fail
          go_ret
          exact ⟨by rw [HH.out, HT.out.2 (by simp; omega)] <;> rfl, rfl⟩
        · go_wp2_with fail
          go_roundw
          case rel => exact ⟨j + 1, by omega, (by first | rw [HW.out] | rfl | simp), (by first | rfl | trivial), by rw [HT.out.1]; simp; omega⟩
          case measure => (first | (rw [intOf_of' HW.out, intOf_of' rfl]; omega) | (simp [intOf]; omega) | (simp [intOf] <;> omega))
      · have h3 : ¬ (j : Int) < (l.length : Int) := by omega
        rw [List.take_of_length_le (by omega)] at hany
        have HA := Lib.hid hany
        clear hany
        go_wp2_with fail
        go_ret
        exact ⟨by rw [HH.out, HA.out] <;> rfl, rfl⟩
set_option maxHeartbeats 4000000 in
theorem grown_any (w : World) (k : Nat) (acts : List Ac) (v : Value) (k1 : 1 ≤ k) (k16 : k ≤ 16) (hv : RdA w v acts) (ho : ∀ a ∈ acts, a.Ok) (hl : acts.length ≤ 900) :
    Calls Tryz.prog 14 #[.int .i64 (k : Nat), v] w fun e w' => DoneP w k (playL k [] acts) e w' := by
  have HNW := Lib.hid (tnew_any w k k1 k16)
  have HD := Lib.hid (And.intro k16 hl)
  have HA := Lib.hid hv
  have HO := Lib.hid ho
  obtain ⟨A, c, rfl, hx⟩ := hv
  have HX := Lib.hid hx
  clear k1 k16 ho hl hx
  go_enter Tryz.func14, Tryz.ntmps14
  go_wp2_with fail
  refine HNW.out.mono ?_
  rintro e w1 ⟨t, rfl, ht, hb⟩
  have HT := Lib.hid (And.intro ht hb)
  clear ht hb
  go_wp2_with fail
  go_loopw [7, 9, 10, 11, 12, 13] (fun tv vin iv _ _ _ wr => ∃ (t' j : Nat), j ≤ acts.length ∧ tv = .pointer (some ⟨t', 0, none⟩) ∧ iv = .int .i64 (j : Nat) ∧ TrR wr t' k (playL k [] (acts.take j)) ∧ RdE wr vin (playL k [] (acts.take j)) ∧ Below w.heap.size w wr) (fun _ _ iv _ _ _ _ => acts.length - (intOf iv).toNat)
  case atStart => exact ⟨t, 0, Nat.zero_le _, rfl, rfl, HT.out.1.bel (by repeat (first | exact Below.refl _ _ | (refine Below.drew ?_) | (refine below_drewN' ?_ _) | (refine below_alloc' ?_ _) | (refine Below.setCell ?_ (by first | exact Nat.le_refl _ | (simp; done) | (simp; omega)) _))), ⟨_, _, rfl, ⟨Nat.le_refl _, Nat.zero_le _, fun h => absurd h (by omega)⟩, fun h => absurd h (by simp [playL])⟩, (by repeat (first | exact HT.out.2 | (refine Below.drew ?_) | (refine below_alloc' ?_ _)))⟩
  case round =>
    obtain ⟨t', j, hj, rfl, rfl, ht, hin, hb⟩ := hrel
    by_cases hlt : j < acts.length
    · have h3 : (j : Int) < (acts.length : Int) := by omega
      have h5 : (0 : Int) ≤ (j : Int) := by omega
      have HW := Lib.hid (show wrap64 ((j : Int) + 1) = ((j + 1 : Nat) : Int) by have := HD.out.2; unfold wrap64; omega)
      obtain ⟨b2, o2, rfl, hc⟩ := HX.out (by omega)
      obtain ⟨u, k0, k1, ku, k2⟩ := (hc j hlt).keep (Below.keeps hb)
      have hoj := HO.out acts[j] (List.getElem_mem hlt)
      have hpl := play_take k [] acts j hlt
      have HES : EtS k (playL k [] (acts.take j)) := EtS.play ⟨Et.nil k, by have := HD.out.1; omega, by simp⟩ _ (fun a ha => HO.out a (List.mem_of_mem_take ha)) (by rw [List.length_nil, List.length_take]; have := HD.out.2; omega)
      have HDN := Lib.hid (done_any wr t' k acts[j] _ _ _ ht hin HES ku hoj)
      rw [← hpl] at HDN
      have HB := Lib.hid hb
      have hlb := World.block_lt_of_cell? wr _ k0
      obtain ⟨Au, cu, rfl, _⟩ := RdU.point ku
      obtain ⟨AI, cI, rfl, _⟩ := hin
      generalize acts[j] = ac at *
      generalize playL k [] (acts.take j) = l1 at *
      clear hc hoj HES hpl hb ht ku
      go_wp2_with fail
      refine HDN.out.mono ?_
      rintro e w2 ⟨t2, vin2, rfl, ht2, hin2, hb2⟩
      have HN := Lib.hid (And.intro ht2 (And.intro hin2 (HB.out.trans (hb2.mono HB.out.size))))
      clear ht2 hin2 hb2
      go_wp2_with fail
      go_roundw
      case rel => exact ⟨t2, j + 1, by omega, rfl, (by first | rw [HW.out] | rfl | simp), HN.out.1, HN.out.2.1, HN.out.2.2⟩
      case measure => (first | (rw [intOf_of' HW.out, intOf_of' rfl]; omega) | (simp [intOf]; omega) | (simp [intOf] <;> omega))
    · have h3 : ¬ (j : Int) < (acts.length : Int) := by omega
      have e : acts.take j = acts := List.take_of_length_le (by omega)
      rw [e] at ht hin
      have HN := Lib.hid (And.intro ht (And.intro hin hb))
      obtain ⟨AI, cI, rfl, _⟩ := hin
      clear ht hb
      go_wp2_with fail
      ((try simp only [Exit.inBlock, Exit.then]); refine bodyPost_ret (results_tmp3 rfl _ _ _) rfl ?_)
      exact ⟨t', _, rfl, HN.out⟩
end Go.Proofs.YtjokcagggmjgmaaGreat
/-! RefA -/
namespace Go.Proofs.YtjokcagggmjgmaaGreat
open Go.RowKit
set_option linter.unusedVariables false
set_option linter.unusedSimpArgs false

theorem cut_step (c n k : Nat) (h : n ≤ k) : c % 2 ^ (k + 1) / 2 ^ n * 2 ^ n = c % 2 ^ k / 2 ^ n * 2 ^ n + Zb.bit c k * 2 ^ k := by
  obtain ⟨j, rfl⟩ : ∃ j, k = n + j := ⟨k - n, by omega⟩
  have h1 : c % 2 ^ (n + j + 1) = c % 2 ^ (n + j) + 2 ^ (n + j) * Zb.bit c (n + j) := by unfold Zb.bit; exact Nat.mod_pow_succ
  rw [h1, Nat.pow_add 2 n j, Nat.mul_assoc (2 ^ n), Nat.add_mul_div_left _ _ (Nat.two_pow_pos n), Nat.add_mul]
  congr 1
  rw [Nat.mul_comm (Zb.bit c (n + j)), Nat.mul_comm _ (2 ^ n), ← Nat.mul_assoc]
theorem cut_all (c n : Nat) (h : c < 2 ^ 64) : c % 2 ^ 64 / 2 ^ n * 2 ^ n = c / 2 ^ n * 2 ^ n := by rw [Nat.mod_eq_of_lt h]
theorem cut_none (c n : Nat) : c % 2 ^ n / 2 ^ n * 2 ^ n = 0 := by rw [Nat.div_eq_of_lt (Nat.mod_lt _ (Nat.two_pow_pos n)), Nat.zero_mul]
set_option maxRecDepth 100000
theorem rPow_any (n : Nat) (w : World) (hn : n ≤ 40) : Calls Tryz.prog 177 #[.int .i64 (n : Nat)] w fun e w' => e = .returned (.int .u64 (2 ^ n : Nat)) ∧ w' = w := by
  have HN := Lib.hid hn
  clear hn
  go_enter Tryz.func177, Tryz.ntmps177
  go_wp2_with fail
  go_loopw [3, 4] (fun xv iv wr => ∃ j : Nat, j ≤ n ∧ xv = .int .u64 (2 ^ j : Nat) ∧ iv = .int .i64 (j : Nat) ∧ wr = w) (fun _ iv _ => n - (intOf iv).toNat)
  case atStart => exact ⟨0, Nat.zero_le _, rfl, rfl, rfl⟩
  case round =>
    obtain ⟨j, hj, hx, rfl, hw⟩ := hrel
    subst hw
    by_cases hlt : j < n
    · have h3 : (j : Int) < (n : Int) := by omega
      have HW := Lib.hid (show wrap64 ((j : Int) + 1) = ((j + 1 : Nat) : Int) by have := HN.out; unfold wrap64; omega)
      obtain ⟨y, hy⟩ : ∃ y, 2 ^ j = y := ⟨_, rfl⟩
      have h2 : 2 ^ (j + 1) = 2 * y := by rw [Nat.pow_succ, hy, Nat.mul_comm]
      have hyl : y ≤ 2 ^ 40 := by rw [← hy]; exact Nat.pow_le_pow_right (by omega) (by have := HN.out; omega)
      have HY := Lib.hid (And.intro h2 (show IntKind.u64.wrap (2 * (y : Int)) = ((2 * y : Nat) : Int) by rw [IntKind.wrap_u64]; omega))
      rw [hy] at hx
      subst hx
      clear hy h2 hyl
      go_wp2_with fail
      go_roundw
      case rel => exact ⟨j + 1, by omega, by first | rw [HY.out.1, HY.out.2] | (rw [HY.out.1, ← HY.out.2] <;> rfl), (by first | rw [HW.out] | rfl | simp), (by first | rfl | trivial)⟩
      case measure => (first | (rw [intOf_of' HW.out, intOf_of' rfl]; omega) | (simp [intOf]; omega) | (simp [intOf] <;> omega))
    · have h3 : ¬ (j : Int) < (n : Int) := by omega
      obtain rfl : j = n := by omega
      subst hx
      have HH := Lib.hid (show (2 ^ j : Nat) = 2 ^ j from rfl)
      generalize hz : (2 ^ j : Nat) = z at *
      go_wp2_with fail
      go_ret
      exact ⟨rfl, rfl⟩
theorem OwnV.lit {t : TypeId} {W w : World} (hb : W.heap.size ≤ w.heap.size) {g : Nat} (hg : g = w.heap.size) : OwnV t W (w.alloc (.cells #[] t)) (.slice (some ⟨g, 0, none⟩) 0 0) [] := by
  subst hg; exact World.ownsRow_lit w #[] 0 hb (by simp [maxLen]) (by simp)
theorem u64sT : SlT1 48 49 (.int .u64 0) := ⟨Tryz.underlying48, by kernel_rfl, by simp [Value.cells]⟩
set_option maxHeartbeats 2000000 in
theorem rCut_any (p : List Nat) (m : Nat) (v : Value) (w : World) (hv : RdU w v (pti p)) (hl : p.length ≤ 40) (hp : ∀ c ∈ p, c < 2 ^ 64) (hm : m ≤ 64) :
    Calls Tryz.prog 160 #[v, .int .i64 ((m : Int) - 1)] w fun e w' => ∃ v', e = .returned v' ∧ OwnV 49 w w' v' ((pti (Zb.cutN p m)).map (Value.int .u64)) ∧ Below w.heap.size w w' := by
  obtain ⟨A, c, rfl, ga0⟩ := RdU.point hv
  have HD := Lib.hid (And.intro hl (And.intro hp hm))
  have HG := Lib.hid ga0
  have hw0 : wrap64 ((m : Int) - 1 + 1) = (m : Int) := by unfold wrap64; omega
  have HM := Lib.hid hw0
  clear hv hl hp hm ga0 hw0
  obtain ⟨mm, hmm⟩ : ∃ mm : Int, mm = (m : Int) - 1 := ⟨_, rfl⟩
  rw [← hmm] at HM ⊢
  clear hmm
  go_enter Tryz.func160, Tryz.ntmps160
  go_wp2_with fail
  go_loopw [5, 6, 7, 8] (fun ov iv _ _ wr => ∃ j : Nat, j ≤ p.length ∧ iv = .int .i64 (j : Nat) ∧ OwnV 49 w wr ov ((pti (Zb.cutN (p.take j) m)).map (Value.int .u64)) ∧ Below w.heap.size w wr) (fun _ iv _ _ _ => p.length - (intOf iv).toNat)
  case atStart => exact ⟨0, Nat.zero_le _, rfl, OwnV.lit (Nat.le_refl _) rfl, (by repeat (first | exact Below.refl _ _ | (refine Below.drew ?_) | (refine below_drewN' ?_ _) | (refine below_alloc' ?_ _) | (refine Below.setCell ?_ (by first | exact Nat.le_refl _ | (simp; done) | (simp; omega)) _)))⟩
  case round =>
    obtain ⟨j, hj, rfl, hown, hb⟩ := hrel
    have HO := Lib.hid (And.intro hown hb)
    by_cases hlt : j < p.length
    · have h3 : (j : Int) < (p.length : Int) := by omega
      have h5 : (0 : Int) ≤ (j : Int) := by omega
      have HW := Lib.hid (show wrap64 ((j : Int) + 1) = ((j + 1 : Nat) : Int) by have := HD.out.1; unfold wrap64; omega)
      obtain ⟨b2, o2, rfl, hc⟩ := HG.out (by omega)
      have k0 := Below.keeps hb _ _ (hc j hlt)
      have hpj := HD.out.2.1 p[j] (List.getElem_mem hlt)
      have HT := Lib.hid (show (pti (Zb.cutN (p.take (j + 1)) m)).map (Value.int .u64) = (pti (Zb.cutN (p.take j) m)).map (Value.int .u64) ++ [.int .u64 ((p[j] / 2 ^ m * 2 ^ m : Nat) : Int)] by rw [← List.take_append_getElem hlt]; unfold Zb.cutN pti; rw [List.map_append, List.map_append, List.map_append]; rfl)
      have HBT := Lib.hid (fun n w' (hn : n < 64) => rBit_any p[j] n w' hpj hn)
      have hlb := World.block_lt_of_cell? wr _ k0
      have HCA := Lib.hid (And.intro (cut_all p[j] m hpj) (cut_none p[j] m))
      have hcs : ∀ n, m ≤ n → p[j] % 2 ^ (n + 1) / 2 ^ m * 2 ^ m = p[j] % 2 ^ n / 2 ^ m * 2 ^ m + Zb.bit p[j] n * 2 ^ n ∧ p[j] % 2 ^ n / 2 ^ m * 2 ^ m < 2 ^ 64 ∧ Zb.bit p[j] n * 2 ^ n < 2 ^ 64 ∧ Zb.bit p[j] n < 2 := fun n hn => by
        have e1 := cut_step p[j] m n hn
        have e2 : p[j] % 2 ^ (n + 1) / 2 ^ m * 2 ^ m ≤ p[j] := Nat.le_trans (Nat.div_mul_le_self _ _) (Nat.mod_le _ _)
        exact ⟨e1, by omega, by omega, Zb.bit_lt _ _⟩
      have HCS := Lib.hid hcs
      generalize p[j] = c0 at *
      clear hc hpj hb hown hcs
      go_wp2_with fail
      go_loopw [7, 8] (fun cv kv wi => ∃ n : Nat, m ≤ n ∧ n ≤ 64 ∧ kv = .int .i64 (n : Nat) ∧ cv = .int .u64 ((c0 % 2 ^ n / 2 ^ m * 2 ^ m : Nat) : Int) ∧ wi = wr) (fun _ kv _ => 64 - (intOf kv).toNat)
      case atStart => exact ⟨m, Nat.le_refl _, HD.out.2.2, (by first | rw [HM.out] | rfl), by rw [HCA.out.2]; rfl, rfl⟩
      case round =>
        obtain ⟨n, hn1, hn2, rfl, hcv, hwi⟩ := hrel
        subst hwi
        by_cases hn : n < 64
        · obtain ⟨e1, e2, e3, e4⟩ := HCS.out n hn1
          have h6 : (n : Int) < 64 := by omega
          have h7 : (0 : Int) ≤ (n : Int) := by omega
          have HWn := Lib.hid (show wrap64 ((n : Int) + 1) = ((n + 1 : Nat) : Int) by unfold wrap64; omega)
          have HBN := Lib.hid (HBT.out n wr hn)
          have HE := Lib.hid e1
          have HNN := Lib.hid (And.intro hn1 hn)
          have hsh : IntKind.u64.wrap ((Zb.bit c0 n : Nat) : Int) = ((Zb.bit c0 n : Nat) : Int) := by rw [IntKind.wrap_u64]; omega
          obtain ⟨y, hy⟩ : ∃ y, Zb.bit c0 n * 2 ^ n = y := ⟨_, rfl⟩
          have hshl : IntKind.u64.wrap (((Zb.bit c0 n : Nat) : Int) * 2 ^ min n 64) = ((y : Nat) : Int) := by
            rw [Nat.min_eq_left (by omega), show ((Zb.bit c0 n : Nat) : Int) * 2 ^ n = ((y : Nat) : Int) by rw [← hy, Int.natCast_mul, Int.natCast_pow]; rfl, IntKind.wrap_u64]; omega
          obtain ⟨z, hz⟩ : ∃ z, c0 % 2 ^ n / 2 ^ m * 2 ^ m = z := ⟨_, rfl⟩
          have e5 : z + y < 2 ^ 64 := by
            have : c0 % 2 ^ (n + 1) / 2 ^ m * 2 ^ m < 2 ^ 64 := (HCS.out (n + 1) (by omega)).2.1
            omega
          rw [hz] at hcv HE
          rw [hy] at HE
          have hadd : IntKind.u64.wrap ((z : Int) + (y : Int)) = ((z + y : Nat) : Int) := by rw [IntKind.wrap_u64]; omega
          have HSH := Lib.hid (show IntKind.u64.wrap (((Zb.bit c0 n : Nat) : Int) * 2 ^ n) = ((y : Nat) : Int) by rw [Nat.min_eq_left (by omega)] at hshl; exact hshl)
          have HAD := Lib.hid hadd
          generalize Zb.bit c0 n = bt at *
          subst hcv
          clear e1 e2 e3 e4 e5 hz hy hadd hshl hn1 hn2 hn
          go_wp2_with fail
          refine HBN.out.mono ?_
          rintro e w2 ⟨rfl, hw⟩
          obtain rfl := hw.symm
          go_wp2_with fail
          go_roundw
          case rel => exact ⟨n + 1, by have := HNN.out; omega, by have := HNN.out; omega, (by first | rw [HW.out] | rfl | simp), by rw [HE.out, HSH.out, HAD.out], (by first | rfl | trivial)⟩
          case measure => (first | (rw [intOf_of' HW.out, intOf_of' rfl]; omega) | (simp [intOf]; omega) | (simp [intOf] <;> omega))
        · obtain rfl : n = 64 := by omega
          have h6 : ¬ ((64 : Nat) : Int) < 64 := by omega
          rw [HCA.out.1] at hcv
          subst hcv
          obtain ⟨z, hz⟩ : ∃ z, c0 / 2 ^ m * 2 ^ m = z := ⟨_, rfl⟩
          rw [hz] at HT ⊢
          clear hz
          go_wp2_with (at_builtin; refine wpList_append_V rfl (.tmp 33) (.tmp 35) rfl w ((pti (Zb.cutN (p.take j) m)).map (Value.int .u64)) (.int .u64 (z : Nat)) u64sT ?_ ?_ ?_ ?_ ?_)
          · exact HO.out.1.below (by repeat (first | exact Below.refl _ _ | (refine Below.drew ?_) | (refine below_drewN' ?_ _) | (refine below_alloc' ?_ _) | (refine Below.setCell ?_ (by first | exact Nat.le_refl _ | (simp; done) | (simp; omega)) _)))
          · exact ⟨_, _, rfl, by simp [go_sem], rfl⟩
          · have := HO.out.2.size; simp; omega
          · have := HD.out.1; simp [pti, Zb.cutN]; omega
          intro v' w' hown' hg
          have HG2 := Lib.hid (OwnV.grown (HO.out.1.below (by repeat (first | exact Below.refl _ _ | (refine Below.drew ?_) | (refine below_drewN' ?_ _) | (refine below_alloc' ?_ _) | (refine Below.setCell ?_ (by first | exact Nat.le_refl _ | (simp; done) | (simp; omega)) _)))) (HO.out.2.trans ((show Below _ _ _ from (by repeat (first | exact Below.refl _ _ | (refine Below.drew ?_) | (refine below_drewN' ?_ _) | (refine below_alloc' ?_ _) | (refine Below.setCell ?_ (by first | exact Nat.le_refl _ | (simp; done) | (simp; omega)) _)))).mono HO.out.2.size)) hg)
          have HO' := Lib.hid hown'
          clear hown' hg
          go_wp2_with fail
          go_roundw
          case rel => exact ⟨j + 1, by omega, (by first | rw [HW.out] | rfl | simp), by rw [HT.out]; exact HO'.out, HG2.out⟩
          case measure => (first | (rw [intOf_of' HW.out, intOf_of' rfl]; omega) | (simp [intOf]; omega) | (simp [intOf] <;> omega))
    · have e : p.take j = p := List.take_of_length_le (by omega)
      have h3 : ¬ (j : Int) < (p.length : Int) := by omega
      rw [e] at HO
      clear hown hb
      go_wp2_with fail
      go_ret
      exact ⟨_, rfl, HO.out⟩
end Go.Proofs.YtjokcagggmjgmaaGreat
/-! RefK -/
namespace Go.Proofs.YtjokcagggmjgmaaGreat
open Go.RowKit
set_option linter.unusedVariables false
set_option linter.unusedSimpArgs false

theorem head!_get {l : List En} (h : 0 < l.length) : l.head! = l[0] := by
  cases l with
  | nil => simp at h
  | cons a l => rfl
theorem getLast!_get {l : List En} (h : 0 < l.length) : l.getLast! = l[l.length - 1] := by
  cases l with
  | nil => simp at h
  | cons a l => simp [List.getLast!, List.getLast_eq_getElem]
set_option maxRecDepth 100000
theorem rLevel_any (k : Nat) (l : List En) (v : Value) (w : World) (hv : RdE w v l) (he : EtS k l) (h0 : 0 < l.length) :
    Calls Tryz.prog 159 #[v] w fun e w' => e = .returned (.int .i64 ((lev l : Int) - 1)) ∧ Below w.heap.size w w' := by
  obtain ⟨A, c, rfl, z5, hx⟩ := hv
  obtain ⟨b, o, rfl, hc⟩ := hx h0
  obtain ⟨u, k0, ku, z1⟩ := hc 0 h0
  obtain ⟨u2, k1, ku2, z2⟩ := hc (l.length - 1) (by omega)
  have m0 := List.getElem_mem (l := l) h0
  have m1 := List.getElem_mem (l := l) (n := l.length - 1) (by omega)
  have HP := Lib.hid (fun w' (hb : Below w.heap.size w w') => rPart_any l[0].p (l[l.length - 1]'(by omega)).p u u2 w' (ku.below hb) (ku2.below hb) (by rw [he.et.len _ m0]; exact he.k40) (by rw [he.et.len _ m1]; exact he.k40) (he.et.ok _ m0) (he.et.ok _ m1))
  have hlv : Zb.part l[0].p (l[l.length - 1]'(by omega)).p 64 = (lev l : Int) - 1 := by
    unfold lev
    rw [head!_get h0, getLast!_get h0]
    have := Zb.part_ge l[0].p (l[l.length - 1]'(by omega)).p 64
    omega
  rw [hlv] at HP
  have hw0 : wrap64 ((l.length : Int) - 1) = ((l.length - 1 : Nat) : Int) := by have := he.short; unfold wrap64; omega
  have h1 : (0 : Int) ≤ ((l.length - 1 : Nat) : Int) := by omega
  have h2 : ((l.length - 1 : Nat) : Int) < (l.length : Int) := by omega
  have h3 : (0 : Int) < (l.length : Int) := by omega
  have hbl := World.block_lt_of_cell? w _ k0
  obtain ⟨Au, cu, rfl, z3⟩ := RdU.point ku
  obtain ⟨Au2, cu2, rfl, z4⟩ := RdU.point ku2
  rw [Nat.zero_mul, Nat.add_zero] at k0
  clear hx hc he hlv ku ku2 m0 m1
  clear z1 z2 z3 z4 z5
  generalize l[0].p.length = n0 at *
  generalize (l[l.length - 1]'(by omega)).p.length = n2 at *
  generalize l.length - 1 = n1 at *
  generalize l.length = n at *
  generalize (lev l : Int) - 1 = lv at *
  go_enter Tryz.func159, Tryz.ntmps159
  go_wp2_with fail
  go_quiet ((exact Calls.quiet_of_same (HP.out _ (drewN_below _ _))))
  go_wp2_with fail
  go_ret
  exact ⟨rfl, (by repeat (first | exact Below.refl _ _ | (refine Below.drew ?_) | (refine below_drewN' ?_ _) | (refine below_alloc' ?_ _) | (refine Below.setCell ?_ (by first | exact Nat.le_refl _ | (simp; done) | (simp; omega)) _)))⟩
theorem rDense_any (k n : Nat) (w : World) (hk : k ≤ 40) (hn : n ≤ 1000000) :
    Calls Tryz.prog 161 #[.int .i64 (k : Nat), .int .i64 (n : Nat)] w fun e w' => e = .returned (.bool (densB k n)) ∧ w' = w := by
  have HPW := Lib.hid (fun w' => rPow_any k w' hk)
  by_cases h6 : k ≤ 6
  · have h1 : (k : Int) ≤ 6 := by omega
    have hp : 2 ^ k ≤ 64 := Nat.pow_le_pow_right (n := 2) (by omega) h6
    obtain ⟨y, hy⟩ : ∃ y, 2 ^ k = y := ⟨_, rfl⟩
    have hd : densB k n = decide (y < 2 * n) := by unfold densB; rw [hy]; simp [h6]
    rw [hy] at HPW hp
    have HH := Lib.hid hd
    have hw : wrap64 (2 * (n : Int)) = ((2 * n : Nat) : Int) := by unfold wrap64; omega
    have hw2 : wrap64 (y : Int) = (y : Int) := by unfold wrap64; omega
    have HB := Lib.hid (show decide ((y : Int) < 2 * (n : Int)) = decide (y < 2 * n) by
      by_cases h : y < 2 * n
      · rw [decide_eq_true h, decide_eq_true (by omega)]
      · rw [decide_eq_false h, decide_eq_false (by omega)])
    clear hk h6 hy hd hn
    go_enter Tryz.func161, Tryz.ntmps161
    go_wp2_with fail
    refine (HPW.out _).mono ?_
    rintro e w1 ⟨rfl, hww⟩
    obtain rfl := hww.symm
    go_wp2_with fail
    go_ret
    refine ⟨?_, rfl⟩
    rw [HH.out, ← HB.out]
    first | rfl | (simp; done) | (simp <;> rfl)
  · have h1 : ¬ (k : Int) ≤ 6 := by omega
    have HH := Lib.hid (show densB k n = false by unfold densB; simp [h6])
    clear hk h6 hn
    go_enter Tryz.func161, Tryz.ntmps161
    go_wp2_with fail
    go_ret
    exact ⟨by rw [HH.out] <;> rfl, rfl⟩
/-- a slice of slices of entries is handed back: parts of a list that is read in W -/
def GrpP (W0 W : World) (gs : List (List En)) (w' : World) (v : Value) : Prop := ∃ vs : List Value, OwnV 28 W w' v vs ∧ vs.length = gs.length ∧ ∀ i (h : i < vs.length) (h' : i < gs.length), RdE W0 vs[i] gs[i]
end Go.Proofs.YtjokcagggmjgmaaGreat
/-! RefL -/
namespace Go.Proofs.YtjokcagggmjgmaaGreat
open Go.RowKit
set_option linter.unusedVariables false
set_option linter.unusedSimpArgs false

structure SlTn (st et : TypeId) (z : Value) (n : Nat) : Prop where
  und : Tryz.prog.underlying st = some (.slice et)
  info : (Tryz.prog.info? et).map (fun i => (i.zero, i.size, i.bytes)) = some (some z, 1, n)
  one : z.cells.size = 1
  le : n ≤ 64
theorem run_append_Vn {st et : TypeId} {z : Value} {n : Nat} (hi : SlTn st et z n) (W w : World) (v x : Value) (l : List Value) (y : Value) (hown : OwnV et W w v l) (hx : SrcV w x y) (hb : W.heap.size ≤ w.heap.size) (hlen : l.length ≤ 100000) (ty : TypeId) :
    ∃ v' w', (Builtin.append_ #[st, st] ty #[v, x]).run Tryz.prog w = .ok v' w' ∧ OwnV et W w' v' (l ++ [y]) ∧ w.grownBy w' v.ownBlock := by
  obtain ⟨v', w', a1, a2, a3⟩ := run_append_src (P := Tryz.prog) w W.heap.size st ty et z 1 n hi.und hi.info hi.one (by omega) v l.length l hown x 1 [y] hx.src (by simp only [maxLen]; omega) (Nat.le_trans (Nat.mul_le_mul (show l.length + 1 ≤ 100001 by omega) hi.le) (by omega)) hb
  exact ⟨v', w', a1, by unfold OwnV; rw [List.length_append]; exact a2, a3⟩
theorem wpList_append_Vn {st et : TypeId} {z : Value} {n : Nat} {w : World} {ops : Array Oper} {rest : List Oper} {o : Oper} {a : Act} {Q : Exit → Act → World → Prop} (hgd : o.guard = none) (s x : Operand)
    (ho : o.op = .call { callee := .builtin .append, args := #[s, x], argTypes := #[st, st] }) (W : World) (l : List Value) (y : Value) (hi : SlTn st et z n)
    (hown : OwnV et W w (a.eval s) l) (hx : SrcV w (a.eval x) y) (hb : W.heap.size ≤ w.heap.size) (hlen : l.length ≤ 100000)
    (h : ∀ v' w', OwnV et W w' v' (l ++ [y]) → w.grownBy w' (a.eval s).ownBlock → wpList Tryz.prog ops Q rest (a.put o.dst v') w') : wpList Tryz.prog ops Q (o :: rest) a w := by
  refine wpList_plain hgd fun K hK => ?_
  obtain ⟨v', w', hrun, r1, r2⟩ := run_append_Vn hi W w _ _ l y hown hx hb hlen o.type
  unfold Oper.wp
  simp [execOp, ho, resolve, invoke, builtin, hrun, Result.andThen]
  exact hK _ _ (h v' w' r1 r2)
theorem entsT : SlTn 162 28 (.slice none 0 0) 24 := ⟨Tryz.underlying162, by kernel_rfl, by simp [Value.cells], by omega⟩
theorem GrpP.below {W0 W w w' : World} {gs : List (List En)} {v : Value} (h : GrpP W0 W gs w v) (hb : Below w.heap.size w w') : GrpP W0 W gs w' v := let ⟨vs, h1, h2⟩ := h; ⟨vs, h1.below hb, h2⟩
theorem alloc_cell0 (w : World) (v : Value) (t : TypeId) : (w.alloc (.cells #[v] t)).cell? ⟨w.heap.size, 0, none⟩ = some v := by simp [go_sem]
theorem GrpP.snoc {W0 W w : World} {gs : List (List En)} {v : Value} {vs : List Value} {x : Value} {g : List En} (h : OwnV 28 W w v (vs ++ [x])) (hl : vs.length = gs.length) (hs : ∀ i (h : i < vs.length) (h' : i < gs.length), RdE W0 vs[i] gs[i]) (hx : RdE W0 x g) : GrpP W0 W (gs ++ [g]) w v := by
  refine ⟨vs ++ [x], h, by simp [hl], fun i h1 h2 => ?_⟩
  by_cases hi : i < vs.length
  · rw [List.getElem_append_left hi, List.getElem_append_left (by omega)]; exact hs i hi (by omega)
  · have : i = vs.length := by simp at h1; omega
    subst this
    rw [List.getElem_append_right (Nat.le_refl _), List.getElem_append_right (by omega)]
    simp [hl]; exact hx
theorem grp_bound {f : En → Nat} {l : List En} {fr i : Nat} {a : Nat} (h1 : fr < i) (h2 : i ≤ l.length) (ha : ∀ e ∈ (l.drop fr).take (i - fr), f e = a) (hb : ∀ h : i < l.length, f l[i] ≠ a) :
    grp f (l.drop fr) = (l.drop fr).take (i - fr) :: grp f (l.drop i) := by
  have e : l.drop fr = (l.drop fr).take (i - fr) ++ l.drop i := by
    conv => lhs; rw [← List.take_append_drop (i - fr) (l.drop fr)]
    rw [List.drop_drop, show fr + (i - fr) = i by omega]
  conv => lhs; rw [e]
  refine grp_run f a _ _ ?_ ha ?_
  · intro h
    have := congrArg List.length h
    rw [List.length_take, List.length_drop] at this
    simp at this; omega
  · intro y hy
    rw [List.head?_drop] at hy
    obtain ⟨hi, hy⟩ := List.getElem?_eq_some_iff.1 (Option.mem_def.1 hy)
    rw [← hy]; exact hb hi
set_option maxRecDepth 100000
set_option maxHeartbeats 1000000 in
theorem rKids_any (k n : Nat) (l : List En) (v : Value) (W0 w : World) (hv0 : RdE W0 v l) (hb0 : Below W0.heap.size W0 w) (he : EtS k l) (hlv : lev l = n + 1) (h0 : 0 < l.length) :
    Calls Tryz.prog 109 #[v] w fun e w' => ∃ v', e = .returned v' ∧ GrpP W0 w (kidsL l) w' v' ∧ Below w.heap.size w w' := by
  have hn : n < 64 := by have := lev_le l; omega
  have hv := hv0.below hb0
  have HLV := Lib.hid (fun w' (hb : Below w.heap.size w w') => rLevel_any k l v w' (hv.below hb) he h0)
  rw [hlv] at HLV
  have hnn : ((n + 1 : Nat) : Int) - 1 = (n : Int) := by omega
  rw [hnn] at HLV
  obtain ⟨f, hf⟩ : ∃ f : En → Nat, f = fun e => Zb.addr e.p n := ⟨_, rfl⟩
  have HK := Lib.hid (show kidsL l = grp f l by unfold kidsL; rw [hlv, hf]; rfl)
  have HV := Lib.hid hv0
  obtain ⟨A, c, rfl, ⟨hcap, _, _⟩, hx⟩ := hv
  obtain ⟨b, o, rfl, hcells⟩ := hx h0
  have HC := Lib.hid hcells
  have HD := Lib.hid (And.intro he.short (And.intro h0 hcap))
  have HAD := Lib.hid (fun i (hi : i < l.length) u w' (hb : Below w.heap.size w w') (hu : RdU w u (pti l[i].p)) => rAddr_any l[i].p n u w' (hu.below hb) (by rw [he.et.len _ (List.getElem_mem hi)]; exact he.k40) (he.et.ok _ (List.getElem_mem hi)) hn)
  clear he hx hcells hlv hnn hv0 hb0
  go_enter Tryz.func109, Tryz.ntmps109
  go_wp2_with fail
  refine (HLV.out _ (by repeat (first | exact Below.refl _ _ | (refine Below.drew ?_) | (refine below_drewN' ?_ _) | (refine below_alloc' ?_ _) | (refine Below.setCell ?_ (by first | exact Nat.le_refl _ | (simp; done) | (simp; omega)) _)))).mono ?_
  rintro e w1 ⟨rfl, hb1⟩
  have HB1 := Lib.hid (show Below w.heap.size w w1 from below_trans (by repeat (first | exact Below.refl _ _ | (refine Below.drew ?_) | (refine below_drewN' ?_ _) | (refine below_alloc' ?_ _) | (refine Below.setCell ?_ (by first | exact Nat.le_refl _ | (simp; done) | (simp; omega)) _))) hb1)
  have HO1 := Lib.hid (show GrpP W0 w [] w1 (.slice (some ⟨w.heap.size, 0, none⟩) 0 0) from ⟨[], (OwnV.lit (W := w) (Nat.le_refl _) rfl).below hb1, rfl, fun i h => absurd h (Nat.not_lt_zero _)⟩)
  clear hb1
  go_wp2_with fail
  go_loopw [3, 5, 6] (fun ov fv iv wr => ∃ (i fr : Nat) (gs : List (List En)), iv = .int .i64 (i : Nat) ∧ fv = .int .i64 (fr : Nat) ∧ 1 ≤ i ∧ GrpP W0 w gs wr ov ∧ gs ++ grp f (l.drop fr) = grp f l ∧ gs.length ≤ fr ∧
      ((i ≤ l.length ∧ fr < i ∧ ∃ a, ∀ e ∈ (l.drop fr).take (i - fr), f e = a) ∨ (i = l.length + 1 ∧ fr = l.length)) ∧ Below w.heap.size w wr) (fun _ _ iv _ => l.length + 1 - (intOf iv).toNat)
  case atStart =>
    refine ⟨1, 0, [], rfl, rfl, Nat.le_refl _, HO1.out, by simp, Nat.le_refl _, .inl ⟨HD.out.2.1, Nat.one_pos, f (l[0]'HD.out.2.1), fun e he => ?_⟩, HB1.out⟩
    have h0 := HD.out.2.1
    cases l with
    | nil => simp at h0
    | cons x l => simp at he; rw [he]; rfl
  case round =>
    obtain ⟨i, fr, gs, rfl, rfl, hi1, hg, hgs, hgl, hcase, hb⟩ := hrel
    rcases hcase with ⟨hil, hfi, a, ha⟩ | ⟨rfl, rfl⟩
    · have h3 : (i : Int) ≤ (l.length : Int) := by omega
      have HW := Lib.hid (show wrap64 ((i : Int) + 1) = ((i + 1 : Nat) : Int) by have := HD.out.1; unfold wrap64; omega)
      have hsl := (HV.out.drop' fr (by omega))
      rw [← List.length_drop] at hsl
      have hcf : ¬ c = fr := by have := HD.out.2.2; omega
      rw [if_neg hcf] at hsl
      have HSL := Lib.hid (RdE.take hsl (i - fr) (by rw [List.length_drop]; omega))
      have h5 : (0 : Int) ≤ (fr : Int) := by omega
      have h6 : (fr : Int) ≤ (i : Int) := by omega
      have h7 : (i : Int) ≤ (c : Int) := by have := HD.out.2.2; omega
      have HG := Lib.hid (And.intro hg (And.intro hgs hgl))
      have HR := Lib.hid (And.intro hil (And.intro hfi ha))
      have HB := Lib.hid hb
      by_cases hlast : i = l.length
      · subst hlast
        have h8 : ((l.length : Int) == (l.length : Int)) = true := by simp
        have hbd := grp_bound hfi (Nat.le_refl _) ha (fun h => absurd h (Nat.lt_irrefl _))
        rw [List.drop_length] at hbd
        have HBD := Lib.hid (show (gs ++ [(l.drop fr).take (l.length - fr)]) ++ grp f (l.drop l.length) = grp f l by rw [← hgs, hbd, List.drop_length, List.append_assoc]; rfl)
        obtain ⟨vs, hown, hvl, hvs⟩ := hg
        have HO := Lib.hid (And.intro hown (And.intro hvl hvs))
        clear hbd hgs hgl hown hvl hvs hsl ha hb hfi hi1 hil
        go_wp2_with fail
        go_quiet (fail)
        go_wp2_with (at_builtin; refine wpList_append_Vn rfl (.tmp 37) (.tmp 42) rfl w vs (.slice (some ⟨b, o + fr * 2, none⟩) (l.length - fr) (c - fr)) entsT ?_ ?_ ?_ ?_ ?_)
        · exact HO.out.1.below (by repeat (first | exact Below.refl _ _ | (refine Below.drew ?_) | (refine below_drewN' ?_ _) | (refine below_alloc' ?_ _) | (refine Below.setCell ?_ (by first | exact Nat.le_refl _ | (simp; done) | (simp; omega)) _)))
        · exact ⟨_, _, rfl, alloc_cell0 _ _ _, rfl⟩
        · have := HB.out.size; simp; omega
        · have := HD.out.1; have := HG.out.2.2; have := HO.out.2.1; have := HR.out; omega
        · intro v' w' hown' hg'
          have HG2 := Lib.hid (OwnV.grown (HO.out.1.below (by repeat (first | exact Below.refl _ _ | (refine Below.drew ?_) | (refine below_drewN' ?_ _) | (refine below_alloc' ?_ _) | (refine Below.setCell ?_ (by first | exact Nat.le_refl _ | (simp; done) | (simp; omega)) _)))) (HB.out.trans ((show Below _ _ _ from (by repeat (first | exact Below.refl _ _ | (refine Below.drew ?_) | (refine below_drewN' ?_ _) | (refine below_alloc' ?_ _) | (refine Below.setCell ?_ (by first | exact Nat.le_refl _ | (simp; done) | (simp; omega)) _)))).mono HB.out.size)) hg')
          have HF := Lib.hid (And.intro (GrpP.snoc hown' HO.out.2.1 HO.out.2.2 HSL.out) HG2.out)
          clear hown' hg'
          go_wp2_with fail
          go_roundw
          case rel => exact ⟨l.length + 1, l.length, gs ++ [(l.drop fr).take (l.length - fr)], (by first | rw [HW.out] | rfl | simp), rfl, by omega, HF.out.1, HBD.out, by have := HG.out.2.2; have := HR.out.2.1; simp; omega, .inr ⟨rfl, rfl⟩, HF.out.2⟩
          case measure => (first | (rw [intOf_of' HW.out, intOf_of' rfl]; omega) | (simp [intOf]; omega) | (simp [intOf] <;> omega))
      · have hlt : i < l.length := by omega
        have h8 : ((i : Int) == (l.length : Int)) = false := by simp; omega
        have h9 : (i : Int) < (l.length : Int) := by omega
        have h10 : (fr : Int) < (l.length : Int) := by omega
        have h11 : (0 : Int) ≤ (i : Int) := by omega
        have hlf : fr < l.length := by omega
        obtain ⟨u, k0, ku, z1⟩ := HC.out i hlt
        obtain ⟨u2, k1, ku2, z2⟩ := HC.out fr hlf
        replace k0 := Below.keeps hb _ _ k0
        replace k1 := Below.keeps hb _ _ k1
        have hbl := World.block_lt_of_cell? wr _ k0
        have HA1 := Lib.hid (fun w' hb => HAD.out i hlt u w' hb ku)
        have HA2 := Lib.hid (fun w' hb => HAD.out fr hlf u2 w' hb ku2)
        have hfa : f l[fr] = a := ha _ (by
          rw [List.mem_iff_getElem]
          exact ⟨0, by rw [List.length_take, List.length_drop]; omega, by rw [List.getElem_take, List.getElem_drop]; simp⟩)
        have hfe : Zb.addr l[fr].p n = a := by rw [← hfa, hf]
        rw [hfe] at HA2
        have hfi2 : f l[i] = Zb.addr l[i].p n := by rw [hf]
        obtain ⟨a2, ha2⟩ : ∃ a2, Zb.addr l[i].p n = a2 := ⟨_, rfl⟩
        rw [ha2] at HA1 hfi2
        obtain ⟨Au, cu, rfl, z3⟩ := RdU.point ku
        obtain ⟨Au2, cu2, rfl, z4⟩ := RdU.point ku2
        clear z1 z2 z3 z4 ku ku2 ha2 hfe
        generalize hn1 : l[i].p.length = n1 at *
        generalize hn2 : l[fr].p.length = n2 at *
        clear hn1 hn2
        by_cases haa : a2 = a
        · have h12 : ((a2 : Int) != (a : Int)) = false := by simp [haa]
          have HEX := Lib.hid (show ∀ e ∈ (l.drop fr).take (i + 1 - fr), f e = a from fun e he => by
            rw [List.mem_iff_getElem] at he
            obtain ⟨j, hj, rfl⟩ := he
            rw [List.length_take, List.length_drop] at hj
            rw [List.getElem_take, List.getElem_drop]
            by_cases hji : fr + j = i
            · have e1 : l[fr + j]'(by omega) = l[i] := by congr 1
              rw [e1, hfi2, haa]
            · refine ha _ ?_
              rw [List.mem_iff_getElem]
              exact ⟨j, by rw [List.length_take, List.length_drop]; omega, by rw [List.getElem_take, List.getElem_drop]⟩)
          clear hg hgs hgl hsl ha hb hfi hi1 hil hfa hfi2 haa
          go_wp2_with fail
          go_quiet ((first | with_reducible exact Calls.quiet_of_same (HA1.out _ (below_drewN' HB.out _)) | with_reducible exact Calls.quiet_of_same (HA2.out _ (below_drewN' HB.out _))))
          go_wp2_with fail
          go_roundw
          case rel => exact ⟨i + 1, fr, gs, (by first | rw [HW.out] | rfl | simp), rfl, by omega, HG.out.1.below (by repeat (first | exact Below.refl _ _ | (refine Below.drew ?_) | (refine below_drewN' ?_ _) | (refine below_alloc' ?_ _) | (refine Below.setCell ?_ (by first | exact Nat.le_refl _ | (simp; done) | (simp; omega)) _))), HG.out.2.1, HG.out.2.2, .inl ⟨by omega, by have := HR.out.2.1; omega, a, HEX.out⟩, (by repeat (first | exact HB.out | (refine Below.drew ?_) | (refine below_drewN' ?_ _) | (refine below_alloc' ?_ _) | (refine Below.setCell ?_ (by first | exact Nat.le_refl _ | (have := HB.out.size; simp; omega) | (have := HB.out.size; omega)) _)))⟩
          case measure => (first | (rw [intOf_of' HW.out, intOf_of' rfl]; omega) | (simp [intOf]; omega) | (simp [intOf] <;> omega))
        · have h12 : ((a2 : Int) != (a : Int)) = true := by simp; omega
          have hbd := grp_bound hfi hil ha (fun _ => by rw [hfi2]; exact haa)
          have HBD := Lib.hid (show (gs ++ [(l.drop fr).take (i - fr)]) ++ grp f (l.drop i) = grp f l by rw [← hgs, hbd, List.append_assoc]; rfl)
          have HEX := Lib.hid (show ∀ e ∈ (l.drop i).take (i + 1 - i), f e = a2 from fun e he => by
            rw [show i + 1 - i = 1 by omega, List.take_one, List.head?_drop] at he
            rw [List.getElem?_eq_getElem hlt] at he
            simp at he
            rw [he, hfi2])
          obtain ⟨vs, hown, hvl, hvs⟩ := hg
          have HO := Lib.hid (And.intro hown (And.intro hvl hvs))
          clear hbd hgs hgl hown hvl hvs hsl ha hb hfi hi1 hil hfa hfi2
          go_wp2_with fail
          go_quiet ((first | with_reducible exact Calls.quiet_of_same (HA1.out _ (below_drewN' HB.out _)) | with_reducible exact Calls.quiet_of_same (HA2.out _ (below_drewN' HB.out _))))
          go_wp2_with (at_builtin; refine wpList_append_Vn rfl (.tmp 37) (.tmp 42) rfl w vs (.slice (some ⟨b, o + fr * 2, none⟩) (i - fr) (c - fr)) entsT ?_ ?_ ?_ ?_ ?_)
          · exact HO.out.1.below (by repeat (first | exact Below.refl _ _ | (refine Below.drew ?_) | (refine below_drewN' ?_ _) | (refine below_alloc' ?_ _) | (refine Below.setCell ?_ (by first | exact Nat.le_refl _ | (simp; done) | (simp; omega)) _)))
          · exact ⟨_, _, rfl, alloc_cell0 _ _ _, rfl⟩
          · have := HB.out.size; simp; omega
          · have := HD.out.1; have := HG.out.2.2; have := HO.out.2.1; have := HR.out; omega
          · intro v' w' hown' hg'
            have HG2 := Lib.hid (OwnV.grown (HO.out.1.below (by repeat (first | exact Below.refl _ _ | (refine Below.drew ?_) | (refine below_drewN' ?_ _) | (refine below_alloc' ?_ _) | (refine Below.setCell ?_ (by first | exact Nat.le_refl _ | (simp; done) | (simp; omega)) _)))) (HB.out.trans ((show Below _ _ _ from (by repeat (first | exact Below.refl _ _ | (refine Below.drew ?_) | (refine below_drewN' ?_ _) | (refine below_alloc' ?_ _) | (refine Below.setCell ?_ (by first | exact Nat.le_refl _ | (simp; done) | (simp; omega)) _)))).mono HB.out.size)) hg')
            have HF := Lib.hid (And.intro (GrpP.snoc hown' HO.out.2.1 HO.out.2.2 HSL.out) HG2.out)
            clear hown' hg'
            go_wp2_with fail
            go_roundw
            case rel => exact ⟨i + 1, i, gs ++ [(l.drop fr).take (i - fr)], (by first | rw [HW.out] | rfl | simp), rfl, by omega, HF.out.1, HBD.out, by have := HG.out.2.2; have := HR.out.2.1; simp; omega, .inl ⟨by omega, by omega, a2, HEX.out⟩, HF.out.2⟩
            case measure => (first | (rw [intOf_of' HW.out, intOf_of' rfl]; omega) | (simp [intOf]; omega) | (simp [intOf] <;> omega))
    · have h3 : ¬ (((l.length + 1 : Nat)) : Int) ≤ (l.length : Int) := by omega
      have e : gs = grp f l := by
        have := hgs
        rw [List.drop_length] at this
        simpa [grp] using this
      subst e
      have HG := Lib.hid hg
      have HB := Lib.hid hb
      clear hg hgs hgl hb hi1
      go_wp2_with fail
      go_ret
      exact ⟨_, rfl, by rw [HK.out]; exact HG.out, HB.out⟩
end Go.Proofs.YtjokcagggmjgmaaGreat
/-! RefS -/
namespace Go.Proofs.YtjokcagggmjgmaaGreat
open Go.RowKit
set_option linter.unusedVariables false
set_option linter.unusedSimpArgs false

/-- a value reads as a shape -/
def ShR (w : World) (x : Value) (s : Sh) : Prop := ∃ u pl, x = .agg #[.int .i64 s.lv, u, pl, .bool s.dense, .int .u64 (s.v : Nat)] ∧ RdU w u (pti s.pre) ∧ Sl w pl (s.pl.map fun (x : Nat) => Value.int .i64 (x : Nat))
theorem ShR.below {w w' : World} {x : Value} {s : Sh} (h : ShR w x s) (hb : Below w.heap.size w w') : ShR w' x s := let ⟨u, pl, h1, h2, h3⟩ := h; ⟨u, pl, h1, h2.below hb, h3.below hb⟩
theorem ShV.rd {W w : World} {s : Sh} {x : Value} (h : ShV W w s x) : ShR w x s := let ⟨u, p9, h1, h2, h3⟩ := h.ex; ⟨u, p9, h1, h2.rd, h3.rd⟩
theorem grown_keep {T : TypeId} {W w w' : World} {v : Value} {l : List Value} (h : OwnV T W w v l) (hg : w.grownBy w' v.ownBlock) {b : Nat} {cur : Array Value} {t : TypeId} {fr : Nat × Nat} (ht : t ≠ T) (hb : w.heap[b]? = some (.cells cur t fr)) : w'.heap[b]? = w.heap[b]? :=
  hg.block b (kr_lt hb) fun e => by
    obtain ⟨_, c2, h2⟩ := h.block b e.symm
    rw [hb] at h2
    injection h2 with h2
    injection h2 with _ h2 _
    exact ht h2
/-- a shape whose rows are told apart from rows of shapes by their blocks' types, or were there in W0 -/
def ShK (W0 W w : World) (x : Value) (s : Sh) : Prop := ∃ u pl, x = .agg #[.int .i64 s.lv, u, pl, .bool s.dense, .int .u64 (s.v : Nat)] ∧ (RdU W0 u (pti s.pre) ∨ PtNew w u s.pre) ∧ OwnV 3 W w pl (s.pl.map fun (x : Nat) => Value.int .i64 (x : Nat))
theorem ShK.below {W0 W w w' : World} {x : Value} {s : Sh} (h : ShK W0 W w x s) (hb : Below w.heap.size w w') : ShK W0 W w' x s := by
  obtain ⟨u, pl, h1, h2, h3⟩ := h
  exact ⟨u, pl, h1, h2.imp id (·.below hb), h3.below hb⟩
theorem ShK.rd {W0 W w : World} {x : Value} {s : Sh} (h : ShK W0 W w x s) (hb : Below W0.heap.size W0 w) : ShR w x s := by
  obtain ⟨u, pl, h1, h2, h3⟩ := h
  exact ⟨u, pl, h1, h2.elim (·.below hb) (·.rd), h3.rd⟩
theorem ShV.k {W0 W w : World} {s : Sh} {x : Value} (h : ShV W w s x) : ShK W0 W w x s := let ⟨u, p9, h1, h2, h3⟩ := h.ex; ⟨u, p9, h1, .inr h2, h3⟩
theorem Kd.k1 {k n : Nat} {pre : List Nat} {ks : List (Nat × List En)} (h : Kd k n pre ks) : 1 ≤ k := by
  obtain ⟨x, hx, y, hy, hlt, _⟩ := h.ends
  have h1 := h.addr_lt hy
  rcases Nat.eq_zero_or_pos k with rfl | h0
  · simp at h1; omega
  · exact h0
def ShRP (W0 W : World) (s : Sh) (e : Ending) (w' : World) : Prop := ∃ x, e = .returned x ∧ ShK W0 W w' x s ∧ Below W.heap.size W w'
set_option maxRecDepth 100000
set_option maxHeartbeats 4000000 in
theorem rShape_one (W0 w : World) (e : En) (v : Value) (hv : RdE W0 v [e]) (hb0 : Below W0.heap.size W0 w) : Calls Tryz.prog 108 #[v] w fun e' w' => ShRP W0 w (shL [e]) e' w' := by
  obtain ⟨A, c, rfl, _, hx⟩ := hv
  obtain ⟨b, o, rfl, hc⟩ := hx (by simp)
  obtain ⟨u, k0, ku, k1⟩ := hc 0 (by simp)
  simp only [Nat.zero_mul, Nat.add_zero, List.getElem_cons_zero] at k0 ku k1
  replace k0 := Below.keeps hb0 _ _ k0
  replace k1 := Below.keeps hb0 _ _ k1
  clear hb0
  have hbl : b < w.heap.size := World.block_lt_of_cell? w _ k0
  have HU := Lib.hid ku
  obtain ⟨A9, c9, rfl, z⟩ := RdU.point ku
  have hbn : ¬ w.heap.size = b := by omega
  obtain ⟨n9, hn9⟩ : ∃ n9, e.p.length = n9 := ⟨_, rfl⟩
  rw [hn9] at HU k0
  clear hx hc z ku hn9
  simp only [List.length_singleton]
  go_enter Tryz.func108, Tryz.ntmps108
  go_wp2_with fail
  refine wp_region_vals 9 [fun z9 _ => z9 = .slice (some ⟨b, o, none⟩) 1 c,
    fun z9 _ => z9 = .pointer (some ⟨b, o, none⟩),
    fun z9 _ => z9 = .pointer (some ⟨b, o, none⟩),
    fun z9 _ => z9 = .slice A9 n9 c9,
    fun z9 _ => z9 = .slice (some ⟨b, o, none⟩) 1 c,
    fun z9 _ => z9 = .pointer (some ⟨b, o, none⟩),
    fun z9 _ => z9 = .pointer (some ⟨b, o + 1, none⟩),
    fun z9 _ => z9 = .int .u64 (e.v : Nat),
    fun z9 _ => z9 = .agg #[.int .i64 (-1), .slice A9 n9 c9, .slice none 0 0, .bool false, .int .u64 (e.v : Nat)]]
    (by kernel_rfl) (by kernel_rfl) (by kernel_rfl) (by kernel_rfl) ?_ ?_ ?_
  · intro V hV v w1 w2 h hb
    simp only [List.mem_cons, List.not_mem_nil, or_false] at hV
    rcases hV with rfl | rfl | rfl | rfl | rfl | rfl | rfl | rfl | rfl
    all_goals first | exact h | (exact h)
  · intro iq oq hiq hoq
    match iq, hiq with
    | 0, _ =>
    obtain rfl := Option.some.inj hoq
    intro a1 w1 K hk hK
    have e0 : a1.tmps.getD 0 undef = .slice (some ⟨b, o, none⟩) 1 c := hk.same 0 (by simp)
    simp [Region.wanted, Oper.wp, Act.eval, go_sem, e0, k0, k1, hbl, hbn]
    exact hK _ _ (Below.refl _ _) rfl
    | 1, _ =>
    obtain rfl := Option.some.inj hoq
    intro a1 w1 K hk hK
    have d9 : a1.tmps.getD 9 undef = .slice (some ⟨b, o, none⟩) 1 c := hk.deps ⟨0, .data⟩ (by simp) rfl _ _ rfl rfl
    simp [Region.wanted, Oper.wp, Act.eval, go_sem, d9, k0, k1, hbl, hbn]
    exact hK _ _ (Below.refl _ _) rfl
    | 2, _ =>
    obtain rfl := Option.some.inj hoq
    intro a1 w1 K hk hK
    have d10 : a1.tmps.getD 10 undef = .pointer (some ⟨b, o, none⟩) := hk.deps ⟨1, .data⟩ (by simp) rfl _ _ rfl rfl
    simp [Region.wanted, Oper.wp, Act.eval, go_sem, d10, k0, k1, hbl, hbn]
    exact hK _ _ (Below.refl _ _) rfl
    | 3, _ =>
    obtain rfl := Option.some.inj hoq
    intro a1 w1 K hk hK
    have d11 : a1.tmps.getD 11 undef = .pointer (some ⟨b, o, none⟩) := hk.deps ⟨2, .data⟩ (by simp) rfl _ _ rfl rfl
    have c0 : w1.cell? ⟨b, o, none⟩ = some (.slice A9 n9 c9) := Below.keeps hk.ext _ _ (by simp [go_sem, k0, k1, hbl, hbn])
    have c1 : w1.cell? ⟨b, o + 1, none⟩ = some (.int .u64 (e.v : Nat)) := Below.keeps hk.ext _ _ (by simp [go_sem, k0, k1, hbl, hbn])
    simp [Region.wanted, Oper.wp, Act.eval, go_sem, d11, c0, c1, k0, k1, hbl, hbn]
    exact hK _ _ (Below.refl _ _) rfl
    | 4, _ =>
    obtain rfl := Option.some.inj hoq
    intro a1 w1 K hk hK
    have e0 : a1.tmps.getD 0 undef = .slice (some ⟨b, o, none⟩) 1 c := hk.same 0 (by simp)
    simp [Region.wanted, Oper.wp, Act.eval, go_sem, e0, k0, k1, hbl, hbn]
    exact hK _ _ (Below.refl _ _) rfl
    | 5, _ =>
    obtain rfl := Option.some.inj hoq
    intro a1 w1 K hk hK
    have d13 : a1.tmps.getD 13 undef = .slice (some ⟨b, o, none⟩) 1 c := hk.deps ⟨4, .data⟩ (by simp) rfl _ _ rfl rfl
    simp [Region.wanted, Oper.wp, Act.eval, go_sem, d13, k0, k1, hbl, hbn]
    exact hK _ _ (Below.refl _ _) rfl
    | 6, _ =>
    obtain rfl := Option.some.inj hoq
    intro a1 w1 K hk hK
    have d14 : a1.tmps.getD 14 undef = .pointer (some ⟨b, o, none⟩) := hk.deps ⟨5, .data⟩ (by simp) rfl _ _ rfl rfl
    simp [Region.wanted, Oper.wp, Act.eval, go_sem, d14, k0, k1, hbl, hbn]
    exact hK _ _ (Below.refl _ _) rfl
    | 7, _ =>
    obtain rfl := Option.some.inj hoq
    intro a1 w1 K hk hK
    have d15 : a1.tmps.getD 15 undef = .pointer (some ⟨b, o + 1, none⟩) := hk.deps ⟨6, .data⟩ (by simp) rfl _ _ rfl rfl
    have c0 : w1.cell? ⟨b, o, none⟩ = some (.slice A9 n9 c9) := Below.keeps hk.ext _ _ (by simp [go_sem, k0, k1, hbl, hbn])
    have c1 : w1.cell? ⟨b, o + 1, none⟩ = some (.int .u64 (e.v : Nat)) := Below.keeps hk.ext _ _ (by simp [go_sem, k0, k1, hbl, hbn])
    simp [Region.wanted, Oper.wp, Act.eval, go_sem, d15, c0, c1, k0, k1, hbl, hbn]
    exact hK _ _ (Below.refl _ _) rfl
    | 8, _ =>
    obtain rfl := Option.some.inj hoq
    intro a1 w1 K hk hK
    have d12 : a1.tmps.getD 12 undef = .slice A9 n9 c9 := hk.deps ⟨3, .data⟩ (by simp) rfl _ _ rfl rfl
    have d12x : a1.tmps[12]?.getD undef = .slice A9 n9 c9 := by rw [← d12]; simp
    have d16 : a1.tmps.getD 16 undef = .int .u64 (e.v : Nat) := hk.deps ⟨7, .data⟩ (by simp) rfl _ _ rfl rfl
    have d16x : a1.tmps[16]?.getD undef = .int .u64 (e.v : Nat) := by rw [← d16]; simp
    simp [Region.wanted, Oper.wp, Act.eval, go_sem, d12, d12x, d16, d16x, k0, k1, hbl, hbn]
    exact hK _ _ (Below.refl _ _) rfl
  · intro vs w3 hl hb3 hv
    match vs, hl with
    | [v0, v1, v2, v3, v4, v5, v6, v7, v8], _ =>
    obtain rfl : v0 = .slice (some ⟨b, o, none⟩) 1 c := hv 0 (by omega)
    obtain rfl : v1 = .pointer (some ⟨b, o, none⟩) := hv 1 (by omega)
    obtain rfl : v2 = .pointer (some ⟨b, o, none⟩) := hv 2 (by omega)
    obtain rfl : v3 = .slice A9 n9 c9 := hv 3 (by omega)
    obtain rfl : v4 = .slice (some ⟨b, o, none⟩) 1 c := hv 4 (by omega)
    obtain rfl : v5 = .pointer (some ⟨b, o, none⟩) := hv 5 (by omega)
    obtain rfl : v6 = .pointer (some ⟨b, o + 1, none⟩) := hv 6 (by omega)
    obtain rfl : v7 = .int .u64 (e.v : Nat) := hv 7 (by omega)
    obtain rfl : v8 = .agg #[.int .i64 (-1), .slice A9 n9 c9, .slice none 0 0, .bool false, .int .u64 (e.v : Nat)] := hv 8 (by omega)
    clear hv
    simp only [putAll, List.take_succ_cons, List.take_zero, List.drop_succ_cons, List.drop_zero, Act.put, List.setIfInBounds_toArray, List.set_cons_succ, List.set_cons_zero]
    have hb4 : Below w.heap.size w w3 := below_trans (by repeat (first | exact Below.refl _ _ | (refine Below.drew ?_) | (refine below_drewN' ?_ _) | (refine below_alloc' ?_ _) | (refine Below.setCell ?_ (by first | exact Nat.le_refl _ | (simp; done) | (simp; omega)) _))) hb3
    have hblk : w3.heap[w.heap.size]? = some (.cells #[.int .i64 0, .slice none 0 0, .slice none 0 0, .bool false, .int .u64 0] 115 (0, 0)) := (hb3.block _ (by simp)).trans (by show (w.heap.push _)[w.heap.size]? = _; simp)
    have j0 : w3.cell? ⟨w.heap.size, 0, none⟩ = some (.int .i64 0) := by simp only [World.cell?, hblk]; simp
    have j1 : w3.cell? ⟨w.heap.size, 1, none⟩ = some (.slice none 0 0) := by simp only [World.cell?, hblk]; simp
    have j2 : w3.cell? ⟨w.heap.size, 2, none⟩ = some (.slice none 0 0) := by simp only [World.cell?, hblk]; simp
    have j3 : w3.cell? ⟨w.heap.size, 3, none⟩ = some (.bool false) := by simp only [World.cell?, hblk]; simp
    have j4 : w3.cell? ⟨w.heap.size, 4, none⟩ = some (.int .u64 0) := by simp only [World.cell?, hblk]; simp
    have f0 : w3.frozen? ⟨w.heap.size, 0, none⟩ = false := by simp [World.frozen?, hblk]
    have f1 : w3.frozen? ⟨w.heap.size, 1, none⟩ = false := by simp [World.frozen?, hblk]
    have f2 : w3.frozen? ⟨w.heap.size, 2, none⟩ = false := by simp [World.frozen?, hblk]
    have f3 : w3.frozen? ⟨w.heap.size, 3, none⟩ = false := by simp [World.frozen?, hblk]
    have f4 : w3.frozen? ⟨w.heap.size, 4, none⟩ = false := by simp [World.frozen?, hblk]
    have hlt := kr_lt hblk
    have HB4 := Lib.hid hb4
    clear hb3 hb4 hblk
    go_wp2_with fail
    refine bodyPost_ret (v := .agg #[.int .i64 (-1), .slice A9 n9 c9, .slice none 0 0, .bool false, .int .u64 (e.v : Nat)]) (by simp [results, Tryz.results108, go_sem, j0, j1, j2, j3, j4]) rfl ?_
    exact ⟨_, rfl, ⟨_, _, rfl, .inl HU.out, World.ownsRow_nil _ _ _ _⟩, (by repeat (first | exact HB4.out | (refine Below.drew ?_) | (refine below_drewN' ?_ _) | (refine below_alloc' ?_ _) | (refine Below.setCell ?_ (by first | exact Nat.le_refl _ | (have := HB4.out.size; simp; omega) | (have := HB4.out.size; omega)) _)))⟩
end Go.Proofs.YtjokcagggmjgmaaGreat
