/-
  Texts that the proof of PairsTurn leans on, part 4: contracts of functions, and plain laws.
-/
import Derived.Test.YtdkomhmciihkiaaMPairsTurn3
import Derived.OwnWalk
import Derived.LaidEqlPtr
/-! TrB -/
namespace Go.Proofs.Ytdkomhmciihkiaa
open Go.RowKit
set_option linter.unusedVariables false
set_option linter.unusedSimpArgs false

/-- a row of nodes, read -/
def RdN (w : World) (v : Value) (bs : List Nat) : Prop := ∃ A c, v = .slice A bs.length c ∧ bs.length ≤ c ∧ (bs ≠ [] → ∃ g, A = some ⟨g, 0, none⟩ ∧ ∀ j (h : j < bs.length), w.cell? ⟨g, j, none⟩ = some (.pointer (some ⟨bs[j], 0, none⟩)))
theorem RdN.below {w w' : World} {v : Value} {bs : List Nat} (h : RdN w v bs) (hb : Below w.heap.size w w') : RdN w' v bs := by
  obtain ⟨A, c, h1, hc, h2⟩ := h
  refine ⟨A, c, h1, hc, fun h0 => ?_⟩
  obtain ⟨g, h3, h4⟩ := h2 h0
  exact ⟨g, h3, fun j hj => Below.keeps hb _ _ (h4 j hj)⟩
theorem OwnV.rdN {W w : World} {v : Value} {bs : List Nat} {t : TypeId} (h : OwnV t W w v (ptrs bs)) : RdN w v bs := by
  have hl : (ptrs bs).length = bs.length := List.length_map _
  obtain ⟨h1, h2⟩ := h
  rcases h2 with ⟨rfl, h0⟩ | ⟨g, cap, cur, rfl, hg, hh, hcap, hm, hs, ht⟩
  · exact ⟨none, 0, by rw [← hl, h0], by omega, fun hp => absurd (List.length_eq_zero_iff.1 (by omega)) hp⟩
  · refine ⟨_, _, by rw [hl], by omega, fun h0 => ⟨g, rfl, fun j hj => ?_⟩⟩
    have h3 : (ptrs bs)[j]? = some (.pointer (some ⟨bs[j], 0, none⟩)) := by unfold ptrs; rw [List.getElem?_map, List.getElem?_eq_getElem hj]; rfl
    have h4 : j < (ptrs bs).length * 1 := by omega
    rw [← h3]
    conv => rhs; rw [← ht]
    rw [List.getElem?_take_of_lt h4, World.cell?]
    simp only [hh]
    simp
/-- what may be done at the end of a way -/
def OpOk (k : Nat) (p : List Nat) (op : List En → List En) : Prop := ∀ (n : Nat) (pre : List Nat) (L : List (Nat × List En)), Kd k n pre L → Zb.cutN p (n + 1) = pre → op (kidOf (Zb.addr p n) L) ≠ [] →
  Kd k n pre (Od.ins ka (Zb.addr p n, op (kidOf (Zb.addr p n) L)) L) ∧ cat (Od.ins ka (Zb.addr p n, op (kidOf (Zb.addr p n) L)) L) = op (cat L)
theorem opok_ins {k : Nat} {p : List Nat} (v : Nat) (hp : p.length = k) (ho : ∀ c ∈ p, c < 2 ^ 64) : OpOk k p (insE p v) := fun n pre L h hc _ => h.ins v hp ho hc
theorem opok_del {k : Nat} {p : List Nat} (hp : p.length = k) (ho : ∀ c ∈ p, c < 2 ^ 64) : OpOk k p (delE p) := fun n pre L h _ hne => h.delSet hp ho hne
theorem Kd.kid_in {k n a : Nat} {pre : List Nat} {L : List (Nat × List En)} {m : List En} (h : Kd k n pre L) (hx : (a, m) ∈ L) : Zb.cutN (Go.Proofs.Ytdkomhmciihkiaa.preL m) (n + 1) = pre ∧ Zb.addr (Go.Proofs.Ytdkomhmciihkiaa.preL m) n = a ∧ Go.Proofs.Ytdkomhmciihkiaa.lev m ≤ n := by
  have hl := h.kid_lev hx
  have hm := head!_mem (h.ne _ hx)
  simp only at hl hm
  unfold Go.Proofs.Ytdkomhmciihkiaa.preL
  refine ⟨?_, ?_, hl⟩
  · rw [cut_cut _ _ _ (by omega)]; exact h.pre _ hx _ hm
  · rw [Zb.addr_cut _ _ _ hl]; exact h.adr _ hx _ hm
theorem pref_get {bs t : List Nat} {b : Nat} {l : List Nat} (h : (bs ++ [b]) ++ t = l) : ∃ hj : bs.length < l.length, l[bs.length] = b := by
  subst h
  refine ⟨by simp, ?_⟩
  simp
set_option maxRecDepth 100000
set_option maxHeartbeats 4000000 in
theorem up_any (w : World) (t k g : Nat) (p : List Nat) (bs : List Nat) (l lr : List En) (v : Value) (op : List En → List En) (c0 : w.cell? ⟨t, 0, none⟩ = some (.int .i64 (k : Nat))) (k1 : 1 ≤ k) (k16 : k ≤ 16) (hv : RdN w v bs)
    (hch : Chain w k p bs l lr) (hop : OpOk k p op) (hg : Nd w k g (op lr)) (hbl : bs.length ≤ 65) :
    Calls Try.prog 20 #[.pointer (some ⟨t, 0, none⟩), v, .pointer (some ⟨g, 0, none⟩)] w fun e w' => ∃ g', e = .returned (.pointer (some ⟨g', 0, none⟩)) ∧ TrR w' g' k (op l) ∧ Below w.heap.size w w' ∧ w.heap.size ≤ g' := by
  obtain ⟨A, c, rfl, _, hx⟩ := hv
  have HX := Lib.hid hx
  have C0 := Lib.hid (And.intro c0 (And.intro k1 k16))
  have HCH := Lib.hid (And.intro hch hg)
  have HL := Lib.hid hbl
  have HOP := Lib.hid hop
  have HW0 := Lib.hid (show wrap64 ((bs.length : Int) - 1) = (bs.length : Int) - 1 by unfold wrap64; omega)
  clear c0 k1 k16 hch hg hx hop hbl
  go_enter Try.func20, Try.ntmps20
  go_wp2_with fail
  go_loopw [2, 7] (fun nv iv wr => ∃ (bsr : List Nat) (g' : Nat) (lr' : List En), nv = .pointer (some ⟨g', 0, none⟩) ∧ iv = .int .i64 ((bsr.length : Int) - 1) ∧ (∃ tl, bsr ++ tl = bs) ∧ Chain w k p bsr l lr' ∧ Nd wr k g' (op lr') ∧ Below w.heap.size w wr) (fun _ iv _ => (intOf iv + 1).toNat)
  case atStart => exact ⟨bs, g, lr, rfl, by first | rfl | rw [HW0.out], ⟨[], by simp⟩, HCH.out.1, HCH.out.2, Below.refl _ _⟩
  case round =>
    obtain ⟨bsr, g', lr', rfl, rfl, hpre, hch, hnd, hb⟩ := hrel
    have HN := Lib.hid (And.intro hnd hb)
    rcases List.eq_nil_or_concat bsr with rfl | ⟨bs', b, rfl⟩
    · have HC := Lib.hid hch
      clear hpre hch hnd hb
      have q0 := Below.keeps HN.out.2 _ _ C0.out.1
      have hq := World.block_lt_of_cell? wr _ q0
      simp only [List.length_nil]
      go_wp2_with fail
      go_ret
      have hl : lr' = l := by
        have := HC.out
        generalize hbs : ([] : List Nat) = ys at this
        cases this with
        | nil => rfl
        | snoc bs' _ b' s n pre ks sub h hs hk hn hc => simp at hbs
      subst hl
      refine ⟨wr.heap.size, rfl, ⟨by simp [go_sem], ⟨some g', by simp [go_sem, pv_some], ?_⟩, C0.out.2.1, C0.out.2.2, _, alloc_blk _ _⟩, below_alloc' HN.out.2 _, HN.out.2.size⟩
      exact Nd.bel HN.out.1 (below_alloc' (Below.refl _ _) _)
    · rw [List.concat_eq_append] at *
      obtain ⟨tl, htl⟩ := hpre
      obtain ⟨s, n, pre, ks, hsub, hh, hs, hk, hn, hc, rfl⟩ := hch.inv
      obtain ⟨hj, hbj⟩ := pref_get htl
      obtain ⟨ga, rfl, hcells⟩ := HX.out (by intro h; rw [h] at hj; simp at hj)
      have x0 := Below.keeps hb _ _ (hcells _ hj)
      rw [hbj] at x0
      have hxl := World.block_lt_of_cell? wr _ x0
      obtain ⟨o1, o2⟩ := HOP.out n pre _ hk hc hnd.ne
      obtain ⟨i1, i2, i3⟩ := o1.kid_in ((Od.mem_ins_iff (key := ka) hk.asc).2 (.inl rfl))
      have HWI := Lib.hid (nwith_any wr k b s n g' pre ks _ (hh.keep hb) (hs.below hb) hk (fun x hx => (hn x hx).bel hb) hnd i1 i3)
      rw [i2, o2] at HWI
      have HS := Lib.hid hsub
      have HT := Lib.hid htl
      have h1 : (0 : Int) ≤ (bs'.length : Int) := by omega
      have h2 : (bs'.length : Int) < (bs.length : Int) := by omega
      have HWR := Lib.hid (show wrap64 ((bs'.length : Int) - 1) = (bs'.length : Int) - 1 by have := HL.out; unfold wrap64; omega)
      have he : ((bs' ++ [b]).length : Int) - 1 = (bs'.length : Int) := by rw [List.length_append, List.length_singleton]; omega
      have HE := Lib.hid he
      clear hcells hch hnd hb hh hs hk hn hc o1 o2 i1 i2 i3 hsub htl hbj
      simp only [he]
      go_wp2_with fail
      refine HWI.out.mono ?_
      rintro e w1 ⟨g2, rfl, hn2, hb2⟩
      have HN2 := Lib.hid (And.intro hn2 (HN.out.2.trans (hb2.mono HN.out.2.size)))
      clear hn2 hb2
      go_wp2_with fail
      go_roundw
      case rel => exact ⟨bs', g2, _, rfl, (by first | rw [HWR.out] | rfl), ⟨b :: tl, by rw [← HT.out]; simp⟩, HS.out, HN2.out.1, HN2.out.2⟩
      case measure => rw [intOf_of' HWR.out, intOf_nat]; omega
theorem found_none (w : World) (A : Option Addr) (c : Nat) :
    Calls Try.prog 17 #[.slice A 0 c] w fun e w' => e = .returned (.tuple #[.agg #[.slice none 0 0, .int .u64 0], .bool false]) ∧ Below w.heap.size w w' := by
  go_enter Try.func17, Try.ntmps17
  go_wp2_with fail
  refine bodyPost_ret (v := .tuple #[.agg #[.slice none 0 0, .int .u64 0], .bool false]) (by simp [results, Try.results17, go_sem]) rfl ⟨rfl, (by repeat (first | exact Below.refl _ _ | (refine Below.drew ?_) | (refine below_drewN' ?_ _) | (refine below_alloc' ?_ _) | (refine Below.setCell ?_ (by first | exact Nat.le_refl _ | (simp; done) | (simp; omega)) _)))⟩
theorem found_node (w : World) (bs : List Nat) (b s : Nat) (v : Value) (hv : RdN w v (bs ++ [b])) (y3 : w.cell? ⟨b, 3, none⟩ = some (.pointer (some ⟨s, 0, none⟩))) (hl : bs.length ≤ 65) :
    Calls Try.prog 17 #[v] w fun e w' => e = .returned (.tuple #[.agg #[.slice none 0 0, .int .u64 0], .bool false]) ∧ Below w.heap.size w w' := by
  obtain ⟨A, c, rfl, _, hx⟩ := hv
  obtain ⟨g, rfl, hc⟩ := hx (by simp)
  have x0 := hc bs.length (by simp)
  have hlb : g < w.heap.size := World.block_lt_of_cell? w _ x0
  rw [show (bs ++ [b])[bs.length]'(by simp) = b by simp] at x0
  have hlen : (bs ++ [b]).length = bs.length + 1 := by simp
  rw [hlen]
  have hw0 : wrap64 ((bs.length : Int) + 1 - 1) = (bs.length : Int) := by unfold wrap64; omega
  have h1 : (0 : Int) ≤ (bs.length : Int) := by omega
  have h2 : (bs.length : Int) < (bs.length : Int) + 1 := by omega
  have h3 : (((bs.length : Int) + 1) == 0) = false := by simp; omega
  have HE := Lib.hid (fun w' (h : Below w.heap.size w w') => ent_node w' b s (Below.keeps h _ _ y3))
  clear hx hc y3 hlen
  generalize bs.length = n at *
  go_enter Try.func17, Try.ntmps17
  go_wp2_with fail
  refine (HE.out _ (by repeat (first | exact Below.refl _ _ | (refine Below.drew ?_) | (refine below_drewN' ?_ _) | (refine below_alloc' ?_ _) | (refine Below.setCell ?_ (by first | exact Nat.le_refl _ | (simp; done) | (simp; omega)) _)))).mono ?_
  rintro e w1 ⟨rfl, hb⟩
  have hblk : w1.heap[w.heap.size]? = some (.cells #[.slice none 0 0, .int .u64 0] 44 (0, 0)) := (hb.block _ (by simp)).trans (by show (w.heap.push _)[w.heap.size]? = _; simp)
  have k0 : w1.cell? ⟨w.heap.size, 0, none⟩ = some (.slice none 0 0) := by simp only [World.cell?, hblk]; simp
  have k1 : w1.cell? ⟨w.heap.size, 1, none⟩ = some (.int .u64 0) := by simp only [World.cell?, hblk]; simp
  have f0 : w1.frozen? ⟨w.heap.size, 0, none⟩ = false := by simp [World.frozen?, hblk]
  have f1 : w1.frozen? ⟨w.heap.size, 1, none⟩ = false := by simp [World.frozen?, hblk]
  have hlt := kr_lt hblk
  have hb4 : Below w.heap.size w w1 := below_trans (by repeat (first | exact Below.refl _ _ | (refine Below.drew ?_) | (refine below_drewN' ?_ _) | (refine below_alloc' ?_ _) | (refine Below.setCell ?_ (by first | exact Nat.le_refl _ | (simp; done) | (simp; omega)) _))) hb
  have HF := Lib.hid ((hb4.setCell (p := ⟨w.heap.size, 0, none⟩) (Nat.le_refl _) (.slice none 0 0)).setCell (p := ⟨w.heap.size, 1, none⟩) (Nat.le_refl _) (.int .u64 0))
  clear hb hb4 hblk
  go_wp2_with fail
  refine bodyPost_ret (v := .tuple #[.agg #[.slice none 0 0, .int .u64 0], .bool false]) (by simp [results, Try.results17, go_sem, k0, k1]) rfl ⟨rfl, HF.out⟩
theorem Nd.leaf_hd {w : World} {k b x : Nat} {p : List Nat} (h : Nd w k b [⟨p, x⟩]) : Hd w b (-1) p x (.pointer none) (Sm.of x) ∧ p.length = k := by
  generalize hl : [(⟨p, x⟩ : En)] = l at h
  cases h with
  | leaf _ q v h hp ho hv => injection hl with hl _; injection hl with h1 h2; subst h1 h2; exact ⟨h, hp⟩
  | node _ s n pre ks h hs hkd hn => have := hkd.two_le; rw [← hl] at this; simp at this
theorem found_leaf (w : World) (bs : List Nat) (b k x : Nat) (p : List Nat) (v : Value) (hv : RdN w v (bs ++ [b])) (hnd : Nd w k b [⟨p, x⟩]) (k1 : 1 ≤ k) (k16 : k ≤ 16) (hl : bs.length ≤ 65) :
    Calls Try.prog 17 #[v] w fun e w' => EntP w p x e w' := by
  obtain ⟨A, c, rfl, _, hx⟩ := hv
  obtain ⟨g, rfl, hc⟩ := hx (by simp)
  have x0 := hc bs.length (by simp)
  have hlb : g < w.heap.size := World.block_lt_of_cell? w _ x0
  rw [show (bs ++ [b])[bs.length]'(by simp) = b by simp] at x0
  have hlen : (bs ++ [b]).length = bs.length + 1 := by simp
  rw [hlen]
  have hw0 : wrap64 ((bs.length : Int) + 1 - 1) = (bs.length : Int) := by unfold wrap64; omega
  have h1 : (0 : Int) ≤ (bs.length : Int) := by omega
  have h2 : (bs.length : Int) < (bs.length : Int) + 1 := by omega
  have h3 : (((bs.length : Int) + 1) == 0) = false := by simp; omega
  have HE := Lib.hid (fun w' (h : Below w.heap.size w w') => let ⟨h1, h2⟩ := (hnd.bel h).leaf_hd; ent_leaf w' b k x _ p _ h1 h2 k1 k16)
  clear hx hc hnd hlen k1 k16
  generalize bs.length = n at *
  go_enter Try.func17, Try.ntmps17
  go_wp2_with fail
  refine (HE.out _ (by repeat (first | exact Below.refl _ _ | (refine Below.drew ?_) | (refine below_drewN' ?_ _) | (refine below_alloc' ?_ _) | (refine Below.setCell ?_ (by first | exact Nat.le_refl _ | (simp; done) | (simp; omega)) _)))).mono ?_
  rintro e w1 ⟨u, rfl, hpt, hb⟩
  have hblk : w1.heap[w.heap.size]? = some (.cells #[.slice none 0 0, .int .u64 0] 44 (0, 0)) := (hb.block _ (by simp)).trans (by show (w.heap.push _)[w.heap.size]? = _; simp)
  have k0 : w1.cell? ⟨w.heap.size, 0, none⟩ = some (.slice none 0 0) := by simp only [World.cell?, hblk]; simp
  have k1 : w1.cell? ⟨w.heap.size, 1, none⟩ = some (.int .u64 0) := by simp only [World.cell?, hblk]; simp
  have f0 : w1.frozen? ⟨w.heap.size, 0, none⟩ = false := by simp [World.frozen?, hblk]
  have f1 : w1.frozen? ⟨w.heap.size, 1, none⟩ = false := by simp [World.frozen?, hblk]
  have hlt := kr_lt hblk
  have hb4 : Below w.heap.size w w1 := below_trans (by repeat (first | exact Below.refl _ _ | (refine Below.drew ?_) | (refine below_drewN' ?_ _) | (refine below_alloc' ?_ _) | (refine Below.setCell ?_ (by first | exact Nat.le_refl _ | (simp; done) | (simp; omega)) _))) hb
  have hset := (hpt.set (j := 0) (x := u) hblk (by decide)).set (j := 1) (x := .int .u64 (x : Nat)) (kr_set hblk) (by decide)
  obtain ⟨A9, c9, rfl, _⟩ := RdU.point hpt.rd
  have HF := Lib.hid (And.intro hset ((hb4.setCell (p := ⟨w.heap.size, 0, none⟩) (Nat.le_refl _) (.slice A9 p.length c9)).setCell (p := ⟨w.heap.size, 1, none⟩) (Nat.le_refl _) (.int .u64 (x : Nat))))
  clear hpt hset hb hb4 hblk
  go_wp2_with fail
  refine bodyPost_ret (v := .tuple #[.agg #[.slice A9 p.length c9, .int .u64 (x : Nat)], .bool true]) (by simp [results, Try.results17, go_sem, k0, k1]) rfl ⟨_, rfl, HF.out⟩
end Go.Proofs.Ytdkomhmciihkiaa
/-! TrC -/
namespace Go.Proofs.Ytdkomhmciihkiaa
open Go.RowKit
set_option linter.unusedVariables false
set_option linter.unusedSimpArgs false

theorem Nd.cov_none {w : World} {k b : Nat} {l : List En} {p : List Nat} (h : Nd w k b l) (hp : p.length = k) (ho : ∀ c ∈ p, c < 2 ^ 64) (hc : cov l p = false) : ∀ e ∈ l, e.key ≠ pkey p := by
  intro e he hk
  have h1 := h.cut e he
  rw [key_pt h.et hp ho he hk] at h1
  unfold cov at hc
  rw [h1] at hc
  simp at hc
theorem getE_one (p : List Nat) (x : Nat) : getE [⟨p, x⟩] p = some x := by
  unfold getE; rw [Od.look_cons, if_pos (show (⟨p, x⟩ : En).key = pkey p from rfl)]; rfl
theorem ins_one (p : List Nat) (x v : Nat) : insE p v [⟨p, x⟩] = [⟨p, v⟩] := by
  unfold insE Od.ins
  simp [En.key]
theorem del_one (p : List Nat) (x : Nat) : delE p [⟨p, x⟩] = [] := by
  unfold delE Od.del
  simp [En.key]
theorem ins_same {k : Nat} {l : List En} {p : List Nat} {v : Nat} (h : Et k l) (hp : p.length = k) (ho : ∀ c ∈ p, c < 2 ^ 64) (hg : getE l p = some v) : insE p v l = l := by
  refine (h.ins v hp ho).ext h fun e => ?_
  rw [h.mem_ins]
  have hmem : (⟨p, v⟩ : En) ∈ l := by
    unfold getE at hg
    cases e1 : Od.look En.key l (pkey p) with
    | none => rw [e1] at hg; simp at hg
    | some y =>
      rw [e1] at hg
      obtain ⟨h1, h2⟩ := Od.look_some e1
      have hv : y.v = v := by simpa using hg
      rw [← hv, ← key_pt h hp ho h1 h2]; exact h1
  constructor
  · rintro (rfl | ⟨h1, _⟩)
    · exact hmem
    · exact h1
  · intro he
    by_cases hk : e.key = pkey p
    · left
      have h1 := Od.look_mem h.asc he
      have h2 := Od.look_mem h.asc hmem
      rw [hk] at h1
      exact Option.some.inj (h1.symm.trans h2)
    · exact .inr ⟨he, hk⟩
/-- a path's end: what was found -/
theorem path_found {w w' : World} {k : Nat} {p bs : List Nat} {l : List En} {v : Value} {below : Option Nat} (hp : p.length = k) (ho : ∀ c ∈ p, c < 2 ^ 64) (k1 : 1 ≤ k) (k16 : k ≤ 16) (hb : Below w.heap.size w w') (hv : RdN w' v bs) (hbl : bs.length ≤ 65)
    (h : (∃ lr, Chain w k p bs l lr ∧ RtN w k below lr ∧ (below = none ∨ cov lr p = false)) ∨ (∃ bs0 b x, bs = bs0 ++ [b] ∧ Chain w k p bs0 l [⟨p, x⟩] ∧ Nd w k b [⟨p, x⟩] ∧ below = none)) :
    (getE l p = none ∧ (∃ lr, Chain w k p bs l lr ∧ RtN w k below lr ∧ getE lr p = none ∧ (∀ b, below = some b → cov lr p = false)) ∧ Calls Try.prog 17 #[v] w' fun e w2 => e = .returned (.tuple #[.agg #[.slice none 0 0, .int .u64 0], .bool false]) ∧ Below w'.heap.size w' w2) ∨
    (∃ x bs0 b, getE l p = some x ∧ bs = bs0 ++ [b] ∧ Chain w k p bs0 l [⟨p, x⟩] ∧ Calls Try.prog 17 #[v] w' fun e w2 => EntP w' p x e w2) := by
  rcases h with ⟨lr, hch, hr, hc⟩ | ⟨bs0, b, x, rfl, hch, hnd, rfl⟩
  · left
    have hg : getE lr p = none := by
      cases below with
      | none => obtain rfl : lr = [] := hr; rfl
      | some b => exact getE_none (Nd.cov_none hr hp ho (by rcases hc with h | h; · cases h
                                                            · exact h))
    refine ⟨by rw [hch.get hp ho, hg], ⟨lr, hch, hr, hg, fun b e => by rcases hc with h | h; · rw [h] at e; cases e
                                                                       · exact h⟩, ?_⟩
    rcases List.eq_nil_or_concat bs with rfl | ⟨bs', b, rfl⟩
    · obtain ⟨A, c, rfl, _, _⟩ := hv
      exact found_none _ _ _
    · rw [List.concat_eq_append] at *
      obtain ⟨s, n, pre, ks, hsub, hh, hs, hk, hn, hc, rfl⟩ := hch.inv
      exact found_node w' bs' b s v hv (Below.keeps hb _ _ hh.c3) (by simp at hbl; omega)
  · right
    refine ⟨x, bs0, b, by rw [hch.get hp ho, getE_one], rfl, hch, found_leaf w' bs0 b k x p v hv (hnd.bel hb) k1 k16 (by simp at hbl; omega)⟩
set_option maxRecDepth 100000
























































/-- a leaf beside a node -/
theorem pair_list {w : World} {k ba bb m v : Nat} {p : List Nat} {la : List En} (hA : Nd w k ba la) (hB : Nd w k bb [⟨p, v⟩]) (hp : p.length = k) (ho : ∀ c ∈ p, c < 2 ^ 64) (hm : Zb.part (preL la) p 64 = m) (h1 : lev la ≤ m) (hg : ∀ e ∈ la, e.key ≠ pkey p) :
    cat ((pairKs (Zb.addr (preL la) m) (Zb.addr p m) ba bb la [⟨p, v⟩]).map kl) = insE p v la := by
  have h := pair_kd hA hB (m := m) (by rw [preL_one]; exact hm) h1 (by rw [lev_one]; omega)
  rw [preL_one] at h
  obtain ⟨hK, hne, _⟩ := h
  refine hK.cat_et.ext (hA.et.ins v hp ho) fun e => ?_
  have hasc : Od.Asc ka [(Zb.addr (preL la) m, ba, la)] := by unfold Od.Asc; simp
  rw [mem_cat, hA.et.mem_ins]
  constructor
  · rintro ⟨x, hx, he⟩
    obtain ⟨y, hy, rfl⟩ := List.mem_map.1 hx
    unfold pairKs at hy
    rcases (Od.mem_ins_iff (key := ka) hasc).1 hy with rfl | ⟨hy, _⟩
    · left; simpa [kl] using he
    · right
      obtain rfl : y = (Zb.addr (preL la) m, ba, la) := by simpa using hy
      exact ⟨he, hg e he⟩
  · rintro (rfl | ⟨he, _⟩)
    · exact ⟨_, List.mem_map.2 ⟨(Zb.addr p m, bb, [⟨p, v⟩]), (Od.mem_ins_iff (key := ka) hasc).2 (.inl rfl), rfl⟩, by simp [kl]⟩
    · exact ⟨_, List.mem_map.2 ⟨(Zb.addr (preL la) m, ba, la), (Od.mem_ins_iff (key := ka) hasc).2 (.inr ⟨by simp, by simpa [ka] using hne⟩), rfl⟩, he⟩
theorem RdN.take {w : World} {A : Option Addr} {n c j : Nat} {bs bs0 tl : List Nat} (h : RdN w (.slice A n c) bs) (he : bs = bs0 ++ tl) (hj : j = bs0.length) : RdN w (.slice A j c) bs0 := by
  obtain ⟨A', c', h1, hc, h2⟩ := h
  subst he hj
  injection h1 with e1 e2 e3
  subst e1 e3
  rw [List.length_append] at hc
  refine ⟨_, _, rfl, by omega, fun h0 => ?_⟩
  obtain ⟨g, h3, h4⟩ := h2 (by simp [h0])
  refine ⟨g, h3, fun j hj => ?_⟩
  rw [h4 j (by rw [List.length_append]; omega), List.getElem_append_left hj]
theorem part_lev {w : World} {k b : Nat} {l : List En} {p : List Nat} (h : Nd w k b l) (hp : p.length = k) (ho : ∀ c ∈ p, c < 2 ^ 64) (hc : cov l p = false) : ∃ m : Nat, Zb.part (preL l) p 64 = m ∧ lev l ≤ m := by
  obtain ⟨q1, q2, q3⟩ := h.pre_ok
  have h1 := cov_part l (lev l) q1 hp q2 ho q3
  unfold cov at hc
  rw [hc] at h1
  have h2 := of_decide_eq_false h1
  exact ⟨(Zb.part (preL l) p 64).toNat, by omega, by omega⟩
/-- Put: a tree with the entry; the same one where nothing changes, else a new one -/
def PutP (W : World) (t k : Nat) (p : List Nat) (v : Nat) (l : List En) (e : Ending) (w' : World) : Prop :=
  ∃ g, e = .returned (.tuple #[.pointer (some ⟨g, 0, none⟩), .int .i64 0]) ∧ TrR w' g k (insE p v l) ∧ Below W.heap.size W w' ∧ (getE l p = some v → g = t) ∧ (getE l p ≠ some v → W.heap.size ≤ g)
set_option maxHeartbeats 4000000 in
theorem tput_any (w : World) (t k v : Nat) (p : List Nat) (l : List En) (vp : Value) (ht : TrR w t k l) (hp : RdU w vp (pti p)) (hl : p.length = k) (ho : ∀ c ∈ p, c < 2 ^ 64) (hv : v < 2 ^ 64) :
    Calls Try.prog 9 #[.pointer (some ⟨t, 0, none⟩), vp, .int .u64 (v : Nat)] w fun e w' => PutP w t k p v l e w' := by
  have HPA := Lib.hid (path_any w t k p l vp ht hp hl ho)
  have HCK := Lib.hid (fun n c A => tchk_any w t k n c A ht.c0)
  have HV := Lib.hid hp
  obtain ⟨A2, c2, rfl, _⟩ := RdU.point hp
  rw [hl] at HPA HV ⊢
  have HD := Lib.hid (And.intro hl (And.intro ho (And.intro ht.k1 (And.intro ht.k16 hv))))
  have HT := Lib.hid ht
  clear ht hp hl ho hv
  go_enter Try.func9, Try.ntmps9
  go_wp2_with fail
  refine (HCK.out k c2 A2).mono ?_
  rintro e w1 ⟨rfl, hw⟩
  obtain rfl := hw.symm
  rw [if_pos rfl]
  go_wp2_with fail
  refine HPA.out.mono ?_
  rintro e w1 ⟨v0, bs, below, rfl, hown, hb, hbl, hcase⟩
  have hrd := hown.rdN
  rcases path_found HD.out.1 HD.out.2.1 HD.out.2.2.1 HD.out.2.2.2.1 hb hrd hbl hcase with ⟨hg, hlr, hf⟩ | ⟨x, bs0, b, hg, hbs, hch, hf⟩
  · have HF := Lib.hid hf
    have HB := Lib.hid hb
    have HR := Lib.hid (And.intro hrd hbl)
    have HG := Lib.hid (And.intro hg hlr)
    obtain ⟨A, c, rfl, _, _⟩ := hrd
    obtain ⟨bq, hbq⟩ := pv_ex below
    rw [hbq]
    have HBQ := Lib.hid hbq
    clear hf hb hcase hown hg hlr hbl hbq
    go_wp2_with fail
    refine HF.out.mono ?_
    rintro e w2 ⟨rfl, hb2⟩
    have HB2r := Lib.hid hb2
    have HB2 := Lib.hid (HB.out.trans (hb2.mono HB.out.size))
    clear hb2
    go_wp2_with fail
    have HLF := Lib.hid (fun w' (hb : Below w.heap.size w w') => nleaf_any w' p v _ (HV.out.below hb) (by have := HD.out; omega) (by have := HD.out; omega) HD.out.2.1 HD.out.2.2.2.2)
    refine (HLF.out _ (by repeat (first | exact HB2.out | (refine Below.drew ?_) | (refine below_drewN' ?_ _) | (refine below_alloc' ?_ _) | (refine Below.setCell ?_ (by first | exact Nat.le_refl _ | (have := HB2.out.size; simp; omega) | (have := HB2.out.size; omega)) _)))).mono ?_
    rintro e w3 ⟨g, rfl, hnd, hb3⟩
    have hb4 : Below w.heap.size w w3 := (show Below w.heap.size w _ from (by repeat (first | exact HB2.out | (refine Below.drew ?_) | (refine below_drewN' ?_ _) | (refine below_alloc' ?_ _) | (refine Below.setCell ?_ (by first | exact Nat.le_refl _ | (have := HB2.out.size; simp; omega) | (have := HB2.out.size; omega)) _)))).trans (hb3.mono (show w.heap.size ≤ _ from Below.size (by repeat (first | exact HB2.out | (refine Below.drew ?_) | (refine below_drewN' ?_ _) | (refine below_alloc' ?_ _) | (refine Below.setCell ?_ (by first | exact Nat.le_refl _ | (have := HB2.out.size; simp; omega) | (have := HB2.out.size; omega)) _)))))
    rw [HD.out.1] at hnd
    have hb1 : Below w1.heap.size w1 w3 := (show Below w1.heap.size w1 _ from (by repeat (first | exact HB2r.out | (refine Below.drew ?_) | (refine below_drewN' ?_ _) | (refine below_alloc' ?_ _) | (refine Below.setCell ?_ (by first | exact Nat.le_refl _ | (have := HB2r.out.size; simp; omega) | (have := HB2r.out.size; omega)) _)))).trans (hb3.mono (show w1.heap.size ≤ _ from Below.size (by repeat (first | exact HB2r.out | (refine Below.drew ?_) | (refine below_drewN' ?_ _) | (refine below_alloc' ?_ _) | (refine Below.setCell ?_ (by first | exact Nat.le_refl _ | (have := HB2r.out.size; simp; omega) | (have := HB2r.out.size; omega)) _)))))
    have HN := Lib.hid (And.intro hnd (And.intro hb4 (HR.out.1.below hb1)))
    clear hnd hb3 hb4 hb1
    obtain ⟨lr, hch, hr, hg0, hcv⟩ := HG.out.2
    cases below with
    | none =>
      obtain rfl : bq = none := by have := HBQ.out; rw [pv_none] at this; injection this with this; exact this.symm
      obtain rfl : lr = [] := hr
      have HUP := Lib.hid (up_any w3 t k g p bs l [] _ (insE p v) (Below.keeps HN.out.2.1 _ _ HT.out.c0) HD.out.2.2.1 HD.out.2.2.2.1 HN.out.2.2 (hch.bel HN.out.2.1) (opok_ins v HD.out.1 HD.out.2.1) HN.out.1 HR.out.2)
      clear hch hcv hg0
      go_wp2_with fail
      refine HUP.out.mono ?_
      rintro e w4 ⟨g4, rfl, ht4, hb4, hg4⟩
      have HF4 := Lib.hid (And.intro ht4 (And.intro (HN.out.2.1.trans (hb4.mono HN.out.2.1.size)) (Nat.le_trans HN.out.2.1.size hg4)))
      clear ht4 hb4 hg4
      go_wp2_with fail
      go_ret2
      exact ⟨g4, rfl, HF4.out.1, HF4.out.2.1, fun h => absurd (HG.out.1.symm.trans h) (by simp), fun _ => HF4.out.2.2⟩
    | some bb =>
      obtain rfl : bq = some ⟨bb, 0, none⟩ := by have := HBQ.out; rw [pv_some] at this; injection this with this; exact this.symm
      have hA : Nd w3 k bb lr := Nd.bel hr HN.out.2.1
      obtain ⟨m, hm1, hm2⟩ := part_lev hA HD.out.1 HD.out.2.1 (hcv bb rfl)
      have HPR := Lib.hid (npair_any w3 k bb g m lr [⟨p, v⟩] hA HN.out.1 (by rw [preL_one]; exact hm1) hm2 (by rw [lev_one]; omega) HD.out.2.2.1 HD.out.2.2.2.1)
      rw [preL_one, pair_list hA HN.out.1 HD.out.1 HD.out.2.1 hm1 hm2 (Nd.cov_none hA HD.out.1 HD.out.2.1 (hcv bb rfl))] at HPR
      have HUP := Lib.hid (fun w4 g4 (h : Below w3.heap.size w3 w4) (hn : Nd w4 k g4 (insE p v lr)) => up_any w4 t k g4 p bs l lr _ (insE p v) (Below.keeps (HN.out.2.1.trans (h.mono HN.out.2.1.size)) _ _ HT.out.c0) HD.out.2.2.1 HD.out.2.2.2.1 (HN.out.2.2.below h) (hch.bel (HN.out.2.1.trans (h.mono HN.out.2.1.size))) (opok_ins v HD.out.1 HD.out.2.1) hn HR.out.2)
      clear hch hcv hg0 hr hA hm1 hm2
      go_wp2_with fail
      refine HPR.out.mono ?_
      rintro e w4 ⟨g4, rfl, hn4, hb4⟩
      have HU4 := Lib.hid (And.intro (HUP.out w4 g4 hb4 hn4) (HN.out.2.1.trans (hb4.mono HN.out.2.1.size)))
      clear hn4 hb4
      go_wp2_with fail
      refine HU4.out.1.mono ?_
      rintro e w5 ⟨g5, rfl, ht4, hb4, hg4⟩
      have HF4 := Lib.hid (And.intro ht4 (And.intro (HU4.out.2.trans (hb4.mono HU4.out.2.size)) (Nat.le_trans HU4.out.2.size hg4)))
      clear ht4 hb4 hg4
      go_wp2_with fail
      go_ret2
      exact ⟨g5, rfl, HF4.out.1, HF4.out.2.1, fun h => absurd (HG.out.1.symm.trans h) (by simp), fun _ => HF4.out.2.2⟩
  · have HF := Lib.hid hf
    have HB := Lib.hid hb
    have HR := Lib.hid (And.intro hrd hbl)
    have HG := Lib.hid (And.intro hg (And.intro hbs hch))
    obtain ⟨A, c, rfl, _, _⟩ := hrd
    obtain ⟨bq, hbq⟩ := pv_ex below
    rw [hbq]
    clear hf hb hcase hown hg hbs hch hbl hbq
    go_wp2_with fail
    refine HF.out.mono ?_
    rintro e w2 ⟨u, rfl, hpt, hb2⟩
    obtain ⟨A9, c9, rfl, _⟩ := RdU.point hpt.rd
    have HB2r := Lib.hid hb2
    have HB2 := Lib.hid (HB.out.trans (hb2.mono HB.out.size))
    clear hb2 hpt
    by_cases hxv : x = v
    · subst hxv
      have h1 : ((x : Int) == (x : Int)) = true := by simp
      go_wp2_with fail
      go_ret2
      exact ⟨t, rfl, by rw [ins_same HT.out.et HD.out.1 HD.out.2.1 HG.out.1]; exact HT.out.bel (by repeat (first | exact HB2.out | (refine Below.drew ?_) | (refine below_drewN' ?_ _) | (refine below_alloc' ?_ _) | (refine Below.setCell ?_ (by first | exact Nat.le_refl _ | (have := HB2.out.size; simp; omega) | (have := HB2.out.size; omega)) _))), (by repeat (first | exact HB2.out | (refine Below.drew ?_) | (refine below_drewN' ?_ _) | (refine below_alloc' ?_ _) | (refine Below.setCell ?_ (by first | exact Nat.le_refl _ | (have := HB2.out.size; simp; omega) | (have := HB2.out.size; omega)) _))), fun _ => rfl, fun h => absurd HG.out.1 h⟩
    · have h1 : ((x : Int) == (v : Int)) = false := by simp; omega
      go_wp2_with fail
      have HLF := Lib.hid (fun w' (hb : Below w.heap.size w w') => nleaf_any w' p v _ (HV.out.below hb) (by have := HD.out; omega) (by have := HD.out; omega) HD.out.2.1 HD.out.2.2.2.2)
      refine (HLF.out _ (by repeat (first | exact HB2.out | (refine Below.drew ?_) | (refine below_drewN' ?_ _) | (refine below_alloc' ?_ _) | (refine Below.setCell ?_ (by first | exact Nat.le_refl _ | (have := HB2.out.size; simp; omega) | (have := HB2.out.size; omega)) _)))).mono ?_
      rintro e w3 ⟨g, rfl, hnd, hb3⟩
      have hb4 : Below w.heap.size w w3 := (show Below w.heap.size w _ from (by repeat (first | exact HB2.out | (refine Below.drew ?_) | (refine below_drewN' ?_ _) | (refine below_alloc' ?_ _) | (refine Below.setCell ?_ (by first | exact Nat.le_refl _ | (have := HB2.out.size; simp; omega) | (have := HB2.out.size; omega)) _)))).trans (hb3.mono (show w.heap.size ≤ _ from Below.size (by repeat (first | exact HB2.out | (refine Below.drew ?_) | (refine below_drewN' ?_ _) | (refine below_alloc' ?_ _) | (refine Below.setCell ?_ (by first | exact Nat.le_refl _ | (have := HB2.out.size; simp; omega) | (have := HB2.out.size; omega)) _)))))
      have hb1 : Below w1.heap.size w1 w3 := (show Below w1.heap.size w1 _ from (by repeat (first | exact HB2r.out | (refine Below.drew ?_) | (refine below_drewN' ?_ _) | (refine below_alloc' ?_ _) | (refine Below.setCell ?_ (by first | exact Nat.le_refl _ | (have := HB2r.out.size; simp; omega) | (have := HB2r.out.size; omega)) _)))).trans (hb3.mono (show w1.heap.size ≤ _ from Below.size (by repeat (first | exact HB2r.out | (refine Below.drew ?_) | (refine below_drewN' ?_ _) | (refine below_alloc' ?_ _) | (refine Below.setCell ?_ (by first | exact Nat.le_refl _ | (have := HB2r.out.size; simp; omega) | (have := HB2r.out.size; omega)) _)))))
      rw [HD.out.1] at hnd
      have hlen : bs.length = bs0.length + 1 := by rw [HG.out.2.1]; simp
      have HUP := Lib.hid (up_any w3 t k g p bs0 l _ (.slice A bs0.length c) (insE p v) (Below.keeps hb4 _ _ HT.out.c0) HD.out.2.2.1 HD.out.2.2.2.1 ((HR.out.1.below hb1).take HG.out.2.1 rfl) (HG.out.2.2.bel hb4) (opok_ins v HD.out.1 HD.out.2.1) (by rw [ins_one]; exact hnd) (by have := HR.out.2; omega))
      have HN := Lib.hid hb4
      have hc := HR.out.1
      obtain ⟨A', c', he1, hc, hA⟩ := hc
      injection he1 with he0 _ he1
      subst he1 he0
      obtain ⟨ga, rfl, _⟩ := hA (by rw [HG.out.2.1]; simp)
      have hc0 : ¬ c = 0 := by omega
      have hw0 : wrap64 (bs0.length : Int) = (bs0.length : Int) := by have := HR.out.2; unfold wrap64; omega
      have h2 : (0 : Int) ≤ (bs0.length : Int) := by omega
      have h3 : (bs0.length : Int) ≤ (c : Int) := by omega
      have HLE := Lib.hid hlen
      rw [hlen]
      clear hnd hb3 hb4 hb1 hlen hc hA
      go_wp2_with fail
      refine HUP.out.mono ?_
      rintro e w4 ⟨g4, rfl, ht4, hb4, hg4⟩
      have HF4 := Lib.hid (And.intro ht4 (And.intro (HN.out.trans (hb4.mono HN.out.size)) (Nat.le_trans HN.out.size hg4)))
      clear ht4 hb4 hg4
      go_wp2_with fail
      go_ret2
      exact ⟨g4, rfl, HF4.out.1, HF4.out.2.1, fun h => absurd (Option.some.inj (HG.out.1.symm.trans h)) hxv, fun _ => HF4.out.2.2⟩
end Go.Proofs.Ytdkomhmciihkiaa
/-! TrD -/
namespace Go.Proofs.Ytdkomhmciihkiaa
open Go.RowKit
set_option linter.unusedVariables false
set_option linter.unusedSimpArgs false

theorem without_path {w w1 : World} {k b s n x : Nat} {p pre : List Nat} {ks : List (Nat × Nat × List En)} (hb : Below w.heap.size w w1) (hp : p.length = k) (ho : ∀ c ∈ p, c < 2 ^ 64)
    (h : Hd w b n pre 0 (.pointer (some ⟨s, 0, none⟩)) (sumsL (cat (ks.map kl)))) (hs : SlR w s k (ks.map kb)) (hk : Kd k n pre (ks.map kl)) (hn : ∀ x ∈ ks, Nd w k x.2.1 x.2.2) (he : [⟨p, x⟩] = kidOf (Zb.addr p n) (ks.map kl)) :
    Calls Try.prog 44 #[.pointer (some ⟨b, 0, none⟩), .int .i64 (Zb.addr p n : Nat)] w1 fun e w' => NdT w1 k (delE p (cat (ks.map kl))) e w' := by
  obtain ⟨d1, d2, d3⟩ := hk.delOut hp ho (by rw [← he, del_one])
  obtain ⟨y, hy, hya, _⟩ := kidOf_mem (show (⟨p, x⟩ : En) ∈ kidOf (Zb.addr p n) (ks.map kl) by rw [← he]; simp)
  obtain ⟨z, hz, rfl⟩ := List.mem_map.1 hy
  obtain ⟨i0, hi0, rfl⟩ := List.getElem_of_mem hz
  have hlen : (Od.del ka (Zb.addr p n) (ks.map kl)).length + 1 = (ks.map kl).length := Od.del_length_eq (key := ka) (by
    intro e
    exact Od.look_none (key := ka) e _ hy hya)
  have h2 := hk.two
  have hdk := (del_ks (Zb.addr p n) ks).2
  rcases Nat.lt_or_ge (Od.del ka (Zb.addr p n) (ks.map kl)).length 2 with hlt | hge
  · have h1 : (Od.del ka (Zb.addr p n) ks).length = 1 := by rw [← hdk, List.length_map] at hlen hlt; omega
    obtain ⟨y, hy1⟩ := List.length_eq_one_iff.1 h1
    have hmem : y ∈ ks := by
      have : y ∈ Od.del ka (Zb.addr p n) ks := by rw [hy1]; simp
      have hasc : Od.Asc ka ks := by
        have := hk.asc
        unfold Od.Asc at this ⊢
        exact (List.pairwise_map (f := kl)).1 this
      exact ((Od.mem_del_iff (key := ka) hasc).1 this).1
    refine (nwo_one w1 k b s n i0 _ pre ks y (h.keep hb) (hs.below hb) hi0 hya hy1).mono ?_
    rintro e w2 ⟨rfl, hb2⟩
    refine ⟨_, rfl, ?_, hb2⟩
    have hc := d3 (by omega)
    rw [← hdk, hy1] at hc
    have : cat ([y].map kl) = y.2.2 := by simp [cat, kl]
    rw [← hc, this]
    exact ((hn y hmem).bel hb).bel hb2
  · rw [← d3 (by omega)]
    exact nwo_more w1 k b s n i0 _ pre ks (h.keep hb) (hs.below hb) (fun x hx => (hn x hx).bel hb) hi0 hya (d1 hge)
/-- Del -/
def DelP (W : World) (k : Nat) (p : List Nat) (l : List En) (e : Ending) (w' : World) : Prop := Below W.heap.size W w' ∧
  ((getE l p = none ∧ e = .returned (.tuple #[.pointer none, .int .i64 6])) ∨ (∃ x g, getE l p = some x ∧ e = .returned (.tuple #[.pointer (some ⟨g, 0, none⟩), .int .i64 0]) ∧ TrR w' g k (delE p l) ∧ W.heap.size ≤ g))
set_option maxRecDepth 100000
set_option maxHeartbeats 4000000 in
theorem tdel_any (w : World) (t k : Nat) (p : List Nat) (l : List En) (vp : Value) (ht : TrR w t k l) (hp : RdU w vp (pti p)) (hl : p.length = k) (ho : ∀ c ∈ p, c < 2 ^ 64) :
    Calls Try.prog 22 #[.pointer (some ⟨t, 0, none⟩), vp] w fun e w' => DelP w k p l e w' := by
  have HPA := Lib.hid (path_any w t k p l vp ht hp hl ho)
  have HCK := Lib.hid (fun n c A => tchk_any w t k n c A ht.c0)
  have HV := Lib.hid hp
  obtain ⟨A2, c2, rfl, _⟩ := RdU.point hp
  rw [hl] at HPA HV ⊢
  have HD := Lib.hid (And.intro hl (And.intro ho (And.intro ht.k1 ht.k16)))
  have HT := Lib.hid ht
  clear ht hp hl ho
  go_enter Try.func22, Try.ntmps22
  go_wp2_with fail
  refine (HCK.out k c2 A2).mono ?_
  rintro e w1 ⟨rfl, hw⟩
  obtain rfl := hw.symm
  rw [if_pos rfl]
  go_wp2_with fail
  refine HPA.out.mono ?_
  rintro e w1 ⟨v0, bs, below, rfl, hown, hb, hbl, hcase⟩
  have hrd := hown.rdN
  rcases path_found HD.out.1 HD.out.2.1 HD.out.2.2.1 HD.out.2.2.2 hb hrd hbl hcase with ⟨hg, hlr, hf⟩ | ⟨x, bs0, b, hg, hbs, hch, hf⟩
  · have HF := Lib.hid hf
    have HB := Lib.hid hb
    have HG := Lib.hid hg
    obtain ⟨A, c, rfl, _, _⟩ := hrd
    obtain ⟨bq, hbq⟩ := pv_ex below
    rw [hbq]
    clear hf hb hcase hown hg hlr hbl hbq
    go_wp2_with fail
    refine HF.out.mono ?_
    rintro e w2 ⟨rfl, hb2⟩
    have HB2 := Lib.hid (HB.out.trans (hb2.mono HB.out.size))
    clear hb2
    go_wp2_with fail
    go_ret2
    exact ⟨(by repeat (first | exact HB2.out | (refine Below.drew ?_) | (refine below_drewN' ?_ _) | (refine below_alloc' ?_ _) | (refine Below.setCell ?_ (by first | exact Nat.le_refl _ | (have := HB2.out.size; simp; omega) | (have := HB2.out.size; omega)) _))), .inl ⟨HG.out, rfl⟩⟩
  · have HF := Lib.hid hf
    have HB := Lib.hid hb
    have HR := Lib.hid (And.intro hrd hbl)
    have HG := Lib.hid (And.intro hg (And.intro hbs hch))
    obtain ⟨A, c, rfl, hcc, hA⟩ := hrd
    obtain ⟨ga, rfl, hcells⟩ := hA (by rw [hbs]; simp)
    obtain ⟨bq, hbq⟩ := pv_ex below
    rw [hbq]
    rcases List.eq_nil_or_concat bs0 with rfl | ⟨bs1, b1, rfl⟩
    · have hlen : bs.length = 1 := by rw [hbs]; rfl
      rw [hlen] at HF ⊢
      clear hf hb hcase hown hg hbs hch hbl hbq hcells hA hlen hcc
      go_wp2_with fail
      refine HF.out.mono ?_
      rintro e w2 ⟨u, rfl, hpt, hb2⟩
      obtain ⟨A9, c9, rfl, _⟩ := RdU.point hpt.rd
      have HB2 := Lib.hid (HB.out.trans (hb2.mono HB.out.size))
      have t0 := Below.keeps HB2.out _ _ HT.out.c0
      have htl : t < w2.heap.size := World.block_lt_of_cell? _ _ t0
      clear hb2 hpt
      have htn : ¬ w2.heap.size = t := by omega
      go_wp2_with fail
      go_ret2
      have hl : l = [⟨p, x⟩] := by
        have := HG.out.2.2
        generalize hbs : ([] : List Nat) = ys at this
        generalize he : [(⟨p, x⟩ : En)] = zs at this
        cases this with
        | nil => rfl
        | snoc bs' _ b' s n pre ks sub h hs hk hn hc => simp at hbs
      refine ⟨(by repeat (first | exact HB2.out | (refine Below.drew ?_) | (refine below_drewN' ?_ _) | (refine below_alloc' ?_ _) | (refine Below.setCell ?_ (by first | exact Nat.le_refl _ | (have := HB2.out.size; simp; omega) | (have := HB2.out.size; omega)) _))), .inr ⟨x, _, HG.out.1, rfl, ⟨?_, ⟨none, ?_, ?_⟩, HD.out.2.2.1, HD.out.2.2.2, _, (by have h := alloc_blk (w2.alloc (.cells #[.slice A9 p.length c9, .int .u64 (x : Nat)] 44)) (.cells #[.int .i64 (k : Nat), .pointer none] 74); rw [World.size_alloc] at h; exact h)⟩, ?_⟩⟩
      · simp [go_sem]
      · simp [go_sem, pv_none]
      · rw [hl, del_one]; exact rfl
      · have := HB2.out.size; simp; omega
    · rw [List.concat_eq_append] at *
      have hlen : bs.length = bs1.length + 2 := by rw [hbs]; simp
      obtain ⟨s, n, pre, ks, hsub, hh, hs, hk, hn, hc, he⟩ := hch.inv
      have HWO := Lib.hid (fun w1 hb => without_path (w := w) (w1 := w1) hb HD.out.1 HD.out.2.1 hh hs hk hn he)
      have hj := hcells bs1.length (by omega)
      have hb1 : bs[bs1.length]'(by omega) = b1 := by simp [hbs]
      rw [hb1] at hj
      have HJ := Lib.hid hj
      have HLV := Lib.hid (fun w1 (hb : Below w.heap.size w w1) => nlev_any w1 b1 n (Below.keeps hb _ _ hh.c0))
      have HZA := Lib.hid (fun w1 (hb : Below w.heap.size w w1) => zAddr_any p n _ w1 (HV.out.below hb) (by have := HD.out; omega) (by have := HD.out; omega) HD.out.2.1 hk.n64)
      have HX := Lib.hid (And.intro hsub hlen)
      have HD0 := Lib.hid (And.intro (del_one p x) he)
      have HP := Lib.hid (HR.out.1.take (tl := [b1, b]) (j := bs1.length) (bs0 := bs1) (by rw [hbs]; simp) rfl)
      have h1 : (0 : Int) ≤ (bs1.length : Int) := by omega
      have h2 : (bs1.length : Int) < (bs1.length : Int) + 2 := by omega
      have h3 : (bs1.length : Int) ≤ (c : Int) := by omega
      have h4 : (((bs1.length : Int) + 2) == 1) = false := by simp; omega
      have hc0 : ¬ c = 0 := by omega
      have hw0 : wrap64 (bs1.length : Int) = (bs1.length : Int) := by unfold wrap64; omega
      rw [hlen] at HF ⊢
      clear hf hb hcase hown hg hbs hch hbl hbq hcells hA hlen hcc hsub hh hs hk hn hc he hj hb1
      go_wp2_with fail
      refine HF.out.mono ?_
      rintro e w2 ⟨u, rfl, hpt, hb2⟩
      obtain ⟨A9, c9, rfl, _⟩ := RdU.point hpt.rd
      have HB2 := Lib.hid (HB.out.trans (hb2.mono HB.out.size))
      have HB2r := Lib.hid hb2
      have x0 := Below.keeps hb2 _ _ HJ.out
      have hxl : ga < w2.heap.size := World.block_lt_of_cell? w2 _ x0
      have hgn : ¬ w2.heap.size = ga := by omega
      clear hb2 hpt
      go_wp2_with fail
      refine (HLV.out _ (by repeat (first | exact HB2.out | (refine Below.drew ?_) | (refine below_drewN' ?_ _) | (refine below_alloc' ?_ _) | (refine Below.setCell ?_ (by first | exact Nat.le_refl _ | (have := HB2.out.size; simp; omega) | (have := HB2.out.size; omega)) _)))).mono ?_
      rintro e w3 ⟨rfl, hw⟩
      obtain rfl := hw.symm
      go_wp2_with fail
      refine (HZA.out _ (by repeat (first | exact HB2.out | (refine Below.drew ?_) | (refine below_drewN' ?_ _) | (refine below_alloc' ?_ _) | (refine Below.setCell ?_ (by first | exact Nat.le_refl _ | (have := HB2.out.size; simp; omega) | (have := HB2.out.size; omega)) _)))).mono ?_
      rintro e w3 ⟨rfl, hw⟩
      obtain rfl := hw.symm
      go_wp2_with fail
      refine (HWO.out _ (by repeat (first | exact HB2.out | (refine Below.drew ?_) | (refine below_drewN' ?_ _) | (refine below_alloc' ?_ _) | (refine Below.setCell ?_ (by first | exact Nat.le_refl _ | (have := HB2.out.size; simp; omega) | (have := HB2.out.size; omega)) _)))).mono ?_
      rintro e w3 ⟨g3, rfl, hn3, hb3⟩
      have hb4 : Below w.heap.size w w3 := (show Below w.heap.size w _ from (by repeat (first | exact HB2.out | (refine Below.drew ?_) | (refine below_drewN' ?_ _) | (refine below_alloc' ?_ _) | (refine Below.setCell ?_ (by first | exact Nat.le_refl _ | (have := HB2.out.size; simp; omega) | (have := HB2.out.size; omega)) _)))).trans (hb3.mono (show w.heap.size ≤ _ from Below.size (by repeat (first | exact HB2.out | (refine Below.drew ?_) | (refine below_drewN' ?_ _) | (refine below_alloc' ?_ _) | (refine Below.setCell ?_ (by first | exact Nat.le_refl _ | (have := HB2.out.size; simp; omega) | (have := HB2.out.size; omega)) _)))))
      have hb1 : Below w1.heap.size w1 w3 := (show Below w1.heap.size w1 _ from (by repeat (first | exact HB2r.out | (refine Below.drew ?_) | (refine below_drewN' ?_ _) | (refine below_alloc' ?_ _) | (refine Below.setCell ?_ (by first | exact Nat.le_refl _ | (have := HB2r.out.size; simp; omega) | (have := HB2r.out.size; omega)) _)))).trans (hb3.mono (show w1.heap.size ≤ _ from Below.size (by repeat (first | exact HB2r.out | (refine Below.drew ?_) | (refine below_drewN' ?_ _) | (refine below_alloc' ?_ _) | (refine Below.setCell ?_ (by first | exact Nat.le_refl _ | (have := HB2r.out.size; simp; omega) | (have := HB2r.out.size; omega)) _)))))
      have HUP := Lib.hid (up_any w3 t k g3 p bs1 l _ _ (delE p) (Below.keeps hb4 _ _ HT.out.c0) HD.out.2.2.1 HD.out.2.2.2 (HP.out.below hb1) (HX.out.1.bel hb4) (opok_del HD.out.1 HD.out.2.1) hn3 (by have := HR.out.2; have := HX.out.2; omega))
      have HN := Lib.hid hb4
      clear hn3 hb3 hb4 hb1
      go_wp2_with fail
      refine HUP.out.mono ?_
      rintro e w4 ⟨g4, rfl, ht4, hb4, hg4⟩
      have HF4 := Lib.hid (And.intro ht4 (And.intro (HN.out.trans (hb4.mono HN.out.size)) (Nat.le_trans HN.out.size hg4)))
      clear ht4 hb4 hg4
      go_wp2_with fail
      go_ret2
      exact ⟨HF4.out.2.1, .inr ⟨x, g4, HG.out.1, rfl, HF4.out.1, HF4.out.2.2⟩⟩
end Go.Proofs.Ytdkomhmciihkiaa
/-! TrE -/
namespace Go.Proofs.Ytdkomhmciihkiaa
open Go.RowKit
set_option linter.unusedVariables false
set_option linter.unusedSimpArgs false

set_option maxRecDepth 100000
theorem of_nil (w : World) (k : Nat) (k1 : 1 ≤ k) (k16 : k ≤ 16) :
    Calls Try.prog 14 #[.int .i64 (k : Nat), .pointer none] w fun e w' => ∃ g, e = .returned (.tuple #[.pointer (some ⟨g, 0, none⟩), .int .i64 0]) ∧ TrR w' g k [] ∧ Below w.heap.size w w' := by
  have HD := Lib.hid (And.intro k1 k16)
  have h1 : ¬ (k : Int) < 1 := by omega
  have h2 : ¬ (k : Int) > 16 := by omega
  have h3 : decide ((k : Int) < 1) = false := by simp; omega
  have h4 : decide ((k : Int) > 16) = false := by simp; omega
  clear k1 k16
  go_enter Try.func14, Try.ntmps14
  go_wp2_with fail
  go_ret2
  exact ⟨_, rfl, ⟨by simp [go_sem], ⟨none, by simp [go_sem, pv_none], rfl⟩, HD.out.1, HD.out.2, _, alloc_blk _ _⟩, (by repeat (first | exact Below.refl _ _ | (refine Below.drew ?_) | (refine below_drewN' ?_ _) | (refine below_alloc' ?_ _) | (refine Below.setCell ?_ (by first | exact Nat.le_refl _ | (simp; done) | (simp; omega)) _)))⟩
theorem tnew_any (w : World) (k : Nat) (k1 : 1 ≤ k) (k16 : k ≤ 16) :
    Calls Try.prog 8 #[.int .i64 (k : Nat)] w fun e w' => ∃ g, e = .returned (.tuple #[.pointer (some ⟨g, 0, none⟩), .int .i64 0]) ∧ TrR w' g k [] ∧ Below w.heap.size w w' := by
  have HO := Lib.hid (of_nil w k k1 k16)
  clear k1 k16
  go_enter Try.func8, Try.ntmps8
  go_wp2_with fail
  refine HO.out.mono ?_
  rintro e w1 ⟨g, rfl, ht, hb⟩
  have HT := Lib.hid (And.intro ht hb)
  clear ht hb
  go_wp2_with fail
  go_ret2
  exact ⟨g, rfl, HT.out.1, HT.out.2⟩
theorem tput_dim (w : World) (t k n c v : Nat) (A : Option Addr) (l : List En) (ht : TrR w t k l) (hn : n ≠ k) :
    Calls Try.prog 9 #[.pointer (some ⟨t, 0, none⟩), .slice A n c, .int .u64 (v : Nat)] w fun e w' => e = .returned (.tuple #[.pointer none, .int .i64 2]) ∧ w' = w := by
  have HC := Lib.hid (tchk_any w t k n c A ht.c0)
  rw [if_neg hn] at HC
  clear ht hn
  go_enter Try.func9, Try.ntmps9
  go_wp2_with fail
  refine HC.out.mono ?_
  rintro e w1 ⟨rfl, hw⟩
  obtain rfl := hw.symm
  go_wp2_with fail
  go_ret2
  exact ⟨rfl, rfl⟩
theorem tdel_dim (w : World) (t k n c : Nat) (A : Option Addr) (l : List En) (ht : TrR w t k l) (hn : n ≠ k) :
    Calls Try.prog 22 #[.pointer (some ⟨t, 0, none⟩), .slice A n c] w fun e w' => e = .returned (.tuple #[.pointer none, .int .i64 2]) ∧ w' = w := by
  have HC := Lib.hid (tchk_any w t k n c A ht.c0)
  rw [if_neg hn] at HC
  clear ht hn
  go_enter Try.func22, Try.ntmps22
  go_wp2_with fail
  refine HC.out.mono ?_
  rintro e w1 ⟨rfl, hw⟩
  obtain rfl := hw.symm
  go_wp2_with fail
  go_ret2
  exact ⟨rfl, rfl⟩
end Go.Proofs.Ytdkomhmciihkiaa
/-! Ent -/
namespace Go.Proofs.Ytdkomhmciihkiaa
open Go.RowKit
set_option linter.unusedVariables false

/-- the entry's two cells at block b, from o on -/
def EnAt (w : World) (b o : Nat) (e : En) : Prop :=
  ∃ v, w.cell? ⟨b, o, none⟩ = some v ∧ RdU w v (pti e.p) ∧ w.cell? ⟨b, o + 1, none⟩ = some (.int .u64 (e.v : Nat))
/-- the slice value v reads as the list l of entries -/
def RdE (w : World) (v : Value) (l : List En) : Prop :=
  ∃ A c, v = .slice A l.length c ∧ (l.length ≤ c ∧ c ≤ maxLen ∧ (0 < c → ∃ b o, A = some ⟨b, o, none⟩)) ∧ (0 < l.length → ∃ b o, A = some ⟨b, o, none⟩ ∧ ∀ j (h : j < l.length), EnAt w b (o + j * 2) l[j])
theorem EnAt.keep {w w' : World} {b o : Nat} {c : En} (h : EnAt w b o c) (hk : ∀ a x, w.cell? a = some x → w'.cell? a = some x) : EnAt w' b o c := by
  obtain ⟨v, h0, hv, h1⟩ := h
  exact ⟨v, hk _ _ h0, RdU.keep hv hk, hk _ _ h1⟩
theorem RdE.keep {w w' : World} {v : Value} {l : List En} (h : RdE w v l) (hk : ∀ a x, w.cell? a = some x → w'.cell? a = some x) : RdE w' v l := by
  obtain ⟨A, c, e, hl, h⟩ := h
  exact ⟨A, c, e, hl, fun hp => let ⟨b, o, ha, hc⟩ := h hp; ⟨b, o, ha, fun j hj => (hc j hj).keep hk⟩⟩
theorem RdE.below {w w' : World} {v : Value} {l : List En} (h : RdE w v l) (hb : Below w.heap.size w w') : RdE w' v l := RdE.keep h (Below.keeps hb)
theorem RdE.nil (w : World) (A : Option Addr) (c : Nat) (h : c ≤ maxLen) (h0 : 0 < c → ∃ b o, A = some ⟨b, o, none⟩) : RdE w (.slice A 0 c) [] := ⟨A, c, rfl, ⟨Nat.zero_le _, h, h0⟩, fun h => absurd h (by simp)⟩
/-- the cells cs hold the entries l, their points as they stand in w -/
def CellsL (w : World) : List En → List Value → Prop
  | [], cs => cs = []
  | e :: l, cs => ∃ u ds, cs = u :: .int .u64 (e.v : Nat) :: ds ∧ RdU w u (pti e.p) ∧ CellsL w l ds
def CellsE (w : World) (cs : List Value) (l : List En) : Prop := CellsL w l cs
theorem CellsE.nil (w : World) : CellsE w [] [] := rfl
theorem CellsE.length {w : World} {cs : List Value} {l : List En} (h : CellsE w cs l) : cs.length = l.length * 2 := by
  induction l generalizing cs with
  | nil => obtain rfl : cs = [] := h; rfl
  | cons e l ih => obtain ⟨u, ds, rfl, _, h⟩ := h; have := ih h; simp; omega
theorem CellsE.append {w : World} {cs ds : List Value} {l m : List En} (h : CellsE w cs l) (k : CellsE w ds m) : CellsE w (cs ++ ds) (l ++ m) := by
  induction l generalizing cs with
  | nil => obtain rfl : cs = [] := h; exact k
  | cons e l ih => obtain ⟨u, ds, rfl, hu, h⟩ := h; exact ⟨u, _, rfl, hu, ih h⟩
theorem CellsE.one {w : World} {u : Value} {p : List Nat} (v : Nat) (h : RdU w u (pti p)) : CellsE w [u, .int .u64 v] [⟨p, v⟩] := ⟨u, [], rfl, h, rfl⟩
theorem CellsE.keep {w w' : World} {cs : List Value} {l : List En} (h : CellsE w cs l) (hk : ∀ a x, w.cell? a = some x → w'.cell? a = some x) : CellsE w' cs l := by
  induction l generalizing cs with
  | nil => exact h
  | cons e l ih => obtain ⟨u, ds, rfl, hu, h⟩ := h; exact ⟨u, ds, rfl, hu.keep hk, ih h⟩
theorem CellsE.oneCell {w : World} {cs : List Value} {l : List En} (h : CellsE w cs l) : ∀ u ∈ cs, u.oneCell' = true := by
  induction l generalizing cs with
  | nil => obtain rfl : cs = [] := h; intro u hu; simp at hu
  | cons e l ih =>
    obtain ⟨u, ds, rfl, hu, h⟩ := h
    intro y hy
    rcases List.mem_cons.1 hy with rfl | hy
    · exact RdU.one' hu
    · rcases List.mem_cons.1 hy with rfl | hy
      · rfl
      · exact ih h y hy
theorem CellsE.at {w w' : World} {cs : List Value} {l : List En} (h : CellsE w cs l) (hk : ∀ a x, w.cell? a = some x → w'.cell? a = some x) {b o : Nat} (hc : ∀ j (h : j < cs.length), w'.cell? ⟨b, o + j, none⟩ = some cs[j]) :
    ∀ j (h : j < l.length), EnAt w' b (o + j * 2) l[j] := by
  induction l generalizing cs o with
  | nil => intro j hj; simp at hj
  | cons e l ih =>
    obtain ⟨u, ds, rfl, hu, h⟩ := h
    · intro j hj
      cases j with
      | zero =>
        have c0 := hc 0 (by simp)
        have c1 := hc 1 (by simp)
        simp only [List.getElem_cons_zero, List.getElem_cons_succ, Nat.add_zero] at c0 c1
        simp only [List.getElem_cons_zero, Nat.zero_mul, Nat.add_zero]
        exact ⟨u, c0, hu.keep hk, c1⟩
      | succ j =>
        have := ih h (o := o + 2) (fun i hi => by
          have := hc (i + 2) (by simpa using hi)
          simp only [List.getElem_cons_succ] at this
          rw [show o + 2 + i = o + (i + 2) by omega]; exact this) j (by simpa using hj)
        simp only [List.getElem_cons_succ]
        rw [show o + (j + 1) * 2 = o + 2 + j * 2 by omega]; exact this
/-- what is read can be laid elsewhere -/
theorem cellsE_of {w : World} {b : Nat} {l : List En} {o : Nat} (h : ∀ j (h : j < l.length), EnAt w b (o + j * 2) l[j]) : ∃ cs, CellsE w cs l ∧ ∀ j u, cs[j]? = some u → w.cell? ((⟨b, o, none⟩ : Addr).add j) = some u := by
  induction l generalizing o with
  | nil => exact ⟨[], rfl, fun j u h => by simp at h⟩
  | cons e l ih =>
    obtain ⟨cs, i1, i2⟩ := ih (o := o + 2) (fun j hj => by
      have := h (j + 1) (by simpa using hj)
      rw [show o + 2 + j * 2 = o + (j + 1) * 2 by omega]
      simpa using this)
    have h0 := h 0 (by simp)
    simp only [Nat.zero_mul, Nat.add_zero, List.getElem_cons_zero] at h0
    obtain ⟨v, c0, hv, c1⟩ := h0
    have key : ∀ (o j : Nat), (⟨b, o, none⟩ : Addr).add j = ⟨b, o + j, none⟩ := fun o j => by
      unfold Addr.add; split
      · rename_i h; subst h; rfl
      · rfl
    refine ⟨v :: .int .u64 (e.v : Nat) :: cs, ⟨v, cs, rfl, hv, i1⟩, fun j u hj => ?_⟩
    rw [key]
    match j with
    | 0 => simp at hj; subst hj; exact c0
    | 1 => simp at hj; subst hj; exact c1
    | j + 2 =>
      simp only [List.getElem?_cons_succ] at hj
      have := i2 j u hj
      rw [key] at this
      rw [show o + (j + 2) = o + 2 + j by omega]; exact this

/-- v is a row of the call's own (the call began in W) that holds the entries l -/
def OwnE (W w : World) (v : Value) (l : List En) : Prop := ∃ cs, w.ownsRow W.heap.size 44 2 v l.length cs ∧ CellsE W cs l
theorem OwnE.rd {W w : World} {v : Value} {l : List En} (h : OwnE W w v l) (hb : Below W.heap.size W w) : RdE w v l := by
  obtain ⟨cs, ho, hc⟩ := h
  obtain ⟨h1, h2⟩ := ho
  rcases h2 with ⟨rfl, h0⟩ | ⟨g, cap, cur, rfl, hg, hh, hcap, hm, hs, ht⟩
  · exact ⟨none, 0, by rw [h0], ⟨by omega, Nat.zero_le _, fun h => absurd h (by omega)⟩, fun hp => absurd hp (by omega)⟩
  · refine ⟨_, _, rfl, ⟨hcap, hm, fun h => ⟨g, 0, rfl⟩⟩, fun hp => ⟨g, 0, rfl, hc.at (Below.keeps hb) fun j hj => ?_⟩⟩
    have h3 : cs[j]? = some cs[j] := List.getElem?_eq_getElem hj
    have h4 : j < l.length * 2 := by omega
    rw [← h3, ← ht, List.getElem?_take_of_lt h4, World.cell?]
    simp only [hh, Nat.zero_add]
    simp
theorem OwnE.nil (W w : World) : OwnE W w (.slice none 0 0) [] := ⟨[], World.ownsRow_nil _ _ _ _, rfl⟩
theorem entryInfo : (Try.prog.info? 44).map (fun i => (i.zero, i.size, i.bytes)) = some (some (.agg #[.slice none 0 0, .int .u64 0]), 2, 32) := by kernel_rfl
/-- entries to be appended -/
def SrcE (W w : World) (x : Value) (m : List En) : Prop := ∃ cs, CellsE W cs m ∧ Src w 2 m.length x cs
theorem RdE.src {W w : World} {x : Value} {m : List En} (h : RdE W x m) (hb : Below W.heap.size W w) : SrcE W w x m := by
  obtain ⟨A, c, rfl, hcap, hm⟩ := h
  by_cases h0 : 0 < m.length
  · obtain ⟨b, o, rfl, hc⟩ := hm h0
    obtain ⟨cs, c1, c2⟩ := cellsE_of hc
    exact ⟨cs, c1, c1.length, c1.oneCell, _, c, rfl, (fun h => by cases h), fun ad had j u hj => by injection had with had; subst had; exact Below.keeps hb _ _ (c2 j u hj)⟩
  · obtain rfl : m = [] := List.eq_nil_of_length_eq_zero (by omega)
    have hA0 : A = none → c = 0 := fun h => by
      by_cases hc : 0 < c
      · obtain ⟨b, o, e⟩ := hcap.2.2 hc
        rw [h] at e; cases e
      · omega
    exact ⟨[], rfl, by simp, fun u hu => by simp at hu, A, c, rfl, fun h => ⟨rfl, hA0 h⟩, fun ad had j u hj => by simp at hj⟩
theorem SrcE.one {W w : World} {b c : Nat} {u : Value} {p : List Nat} {v : Nat} (h0 : w.cell? ⟨b, 0, none⟩ = some u) (hu : RdU W u (pti p)) (h1 : w.cell? ⟨b, 1, none⟩ = some (.int .u64 v)) : SrcE W w (.slice (some ⟨b, 0, none⟩) 1 c) [⟨p, v⟩] :=
  ⟨[u, .int .u64 v], CellsE.one v hu, rfl, (CellsE.one v hu).oneCell, _, c, rfl, (fun h => by cases h), fun ad had j x hj => by
    injection had with had; subst had
    match j with
    | 0 => simp at hj; subst hj; simpa [Addr.add] using h0
    | 1 => simp at hj; subst hj; simpa [Addr.add] using h1
    | j + 2 => simp at hj⟩
/-- reslicing -/
theorem cut_addr {A : Option Addr} {b o k c s : Nat} (h : A = some ⟨b, o, none⟩) (hk : k < c) : (if c = k then A else A.map (·.add (k * s))) = some ⟨b, o + k * s, none⟩ := by
  rw [if_neg (by omega), h]
  simp only [Option.map_some, Addr.add]
  split
  · rename_i h0; rw [h0]; rfl
  · rfl
theorem RdE.drop {w : World} {A : Option Addr} {c : Nat} {l : List En} (h : RdE w (.slice A l.length c) l) (k : Nat) (hk : k ≤ l.length) :
    RdE w (.slice (if c = k then A else A.map (·.add (k * 2))) (l.length - k) (c - k)) (l.drop k) := by
  obtain ⟨A', c', e, ⟨h1, h2, h3⟩, hm⟩ := h
  injection e with e1 _ e2
  subst e1 e2
  refine ⟨_, _, by rw [List.length_drop], ⟨by rw [List.length_drop]; omega, by omega, fun h => ?_⟩, fun hp => ?_⟩
  · obtain ⟨b, o, ha⟩ := h3 (by omega)
    exact ⟨b, o + k * 2, cut_addr ha (by omega)⟩
  · rw [List.length_drop] at hp
    obtain ⟨b, o, ha, hc⟩ := hm (by omega)
    refine ⟨b, o + k * 2, cut_addr ha (by omega), fun j hj => ?_⟩
    rw [List.length_drop] at hj
    have := hc (k + j) (by omega)
    rw [List.getElem_drop, show o + k * 2 + j * 2 = o + (k + j) * 2 by omega]
    exact this
theorem RdE.take {w : World} {A : Option Addr} {c : Nat} {l : List En} (h : RdE w (.slice A l.length c) l) (k : Nat) (hk : k ≤ l.length) : RdE w (.slice A k c) (l.take k) := by
  obtain ⟨A', c', e, ⟨h1, h2, h3⟩, hm⟩ := h
  injection e with e1 _ e2
  subst e1 e2
  refine ⟨A, c, by rw [List.length_take, Nat.min_eq_left hk], ⟨by rw [List.length_take]; omega, h2, h3⟩, fun hp => ?_⟩
  rw [List.length_take] at hp
  obtain ⟨b, o, ha, hc⟩ := hm (by omega)
  refine ⟨b, o, ha, fun j hj => ?_⟩
  rw [List.length_take] at hj
  have := hc j (by omega)
  rw [List.getElem_take]
  exact this

theorem run_append_E (W w : World) (v x : Value) (l m : List En) (hown : OwnE W w v l) (hx : SrcE W w x m) (hb : Below W.heap.size W w) (hlen : l.length + m.length ≤ 100000) (ty : TypeId) :
    ∃ v' w', (Builtin.append_ #[27, 27] ty #[v, x]).run Try.prog w = .ok v' w' ∧ OwnE W w' v' (l ++ m) ∧ Below W.heap.size W w' := by
  obtain ⟨cs, ho, hc⟩ := hown
  obtain ⟨ds, hd, hx⟩ := hx
  obtain ⟨v', w', a1, a2, a3⟩ := run_append_src (P := Try.prog) w W.heap.size 27 ty 44 _ 2 32 Try.underlying27 entryInfo rfl (by omega) v l.length cs ho x m.length ds hx (by simp only [maxLen]; omega) (by omega) hb.size
  exact ⟨v', w', a1, ⟨_, by rw [List.length_append]; exact a2, hc.append hd⟩, hb.grown a3 hb.size (ownBlock_base ho)⟩
theorem wpList_append_E {w : World} {ops : Array Oper} {rest : List Oper} {o : Oper} {a : Act} {Q : Exit → Act → World → Prop} (hgd : o.guard = none) (s x : Operand)
    (ho : o.op = .call { callee := .builtin .append, args := #[s, x], argTypes := #[27, 27] }) (W : World) (l m : List En)
    (hown : OwnE W w (a.eval s) l) (hx : SrcE W w (a.eval x) m) (hb : Below W.heap.size W w) (hlen : l.length + m.length ≤ 100000)
    (h : ∀ v' w', OwnE W w' v' (l ++ m) → Below W.heap.size W w' → wpList Try.prog ops Q rest (a.put o.dst v') w') : wpList Try.prog ops Q (o :: rest) a w := by
  refine wpList_plain hgd fun K hK => ?_
  obtain ⟨v', w', hrun, r1, r2⟩ := run_append_E W w _ _ l m hown hx hb hlen o.type
  unfold Oper.wp
  simp [execOp, ho, resolve, invoke, builtin, hrun, Result.andThen]
  exact hK _ _ (h v' w' r1 r2)
theorem OwnE.alloc {W w : World} {v : Value} {l : List En} (h : OwnE W w v l) (o : Obj) : OwnE W (w.alloc o) v l := let ⟨cs, h1, h2⟩ := h; ⟨cs, h1.alloc o, h2⟩
theorem OwnE.drew {W w : World} {v : Value} {l : List En} (h : OwnE W w v l) : OwnE W w.drew v l := h
theorem OwnE.lit {W w : World} (hb : W.heap.size ≤ w.heap.size) {g : Nat} (hg : g = w.heap.size) : OwnE W (w.alloc (.cells #[] 44)) (.slice (some ⟨g, 0, none⟩) 0 0) [] := by
  subst hg; exact ⟨[], World.ownsRow_lit w #[] 0 hb (by simp [maxLen]) (by simp), rfl⟩
theorem OwnE.below {W w w' : World} {v : Value} {l : List En} (h : OwnE W w v l) (hb : Below w.heap.size w w') : OwnE W w' v l := by
  obtain ⟨cs, ⟨h1, h2⟩, h3⟩ := h
  refine ⟨cs, ⟨h1, ?_⟩, h3⟩
  rcases h2 with h2 | ⟨g, cap, cur, q1, q2, q3, q4⟩
  · exact .inl h2
  · exact .inr ⟨g, cap, cur, q1, q2, (hb.block g (Array.getElem?_eq_some_iff.1 q3).1).trans q3, q4⟩
end Go.Proofs.Ytdkomhmciihkiaa
/-! Ref06 -/
namespace Go.Proofs.Ytdkomhmciihkiaa
open Go.RowKit
set_option linter.unusedVariables false

/-- the lists that are walked here -/
structure EtS (k : Nat) (l : List En) : Prop where
  et : Et k l
  k40 : k ≤ 40
  short : l.length ≤ 1000
structure PtS (k : Nat) (p : List Nat) : Prop where
  len : p.length = k
  ok : ∀ x ∈ p, x < 2 ^ 64

set_option maxRecDepth 100000 in
set_option maxHeartbeats 1000000 in
theorem rPlace_any (k : Nat) (l : List En) (p : List Nat) (v vp : Value) (w : World) (hv : RdE w v l) (hp : RdU w vp (pti p)) (hl : EtS k l) (hs : PtS k p) :
    Calls Try.prog 45 #[v, vp] w fun e w' => e = .returned (.tuple #[.int .i64 (Od.place En.key (pkey p) l).1, .bool (Od.place En.key (pkey p) l).2]) ∧ Below w.heap.size w w' := by
  obtain ⟨A, c, rfl, hcap, ga0⟩ := hv
  clear hcap
  have HD := Lib.hid (And.intro hl hs)
  have HG := Lib.hid ga0
  have HP := Lib.hid hp
  clear hl hs ga0 hp
  go_enter Try.func45, Try.ntmps45
  go_wp2_with fail
  go_loopw [6] (fun i wr => ∃ j : Nat, j ≤ l.length ∧ i = .int .i64 j ∧ (∀ q (hq : q < l.length), q < j → En.key l[q] < pkey p) ∧ Below w.heap.size w wr) (fun i _ => l.length - (intOf i).toNat)
  case atStart => exact ⟨0, Nat.zero_le _, rfl, fun q hq h => by omega, (by repeat (first | exact Below.refl _ _ | assumption | (refine Below.drew ?_) | (refine below_drewN' ?_ _) | (refine below_alloc' ?_ _)))⟩
  case round =>
    obtain ⟨j, hj, rfl, hall, hb⟩ := hrel
    have HB := Lib.hid hb
    have HA := Lib.hid hall
    clear hb hall
    by_cases hlt : j < l.length
    · have h3 : (j : Int) < l.length := by omega
      have h5 : (0 : Int) ≤ (j : Int) := by omega
      obtain ⟨b, o, rfl, ga⟩ := HG.out (by omega)
      obtain ⟨v0, c0, hv0, c1⟩ := (ga j hlt).keep (Below.keeps HB.out)
      clear ga c1
      have hblt : b < wr.heap.size := World.block_lt_of_cell? wr _ c0
      have HV := Lib.hid hv0
      have HW := Lib.hid (show wrap64 ((j : Int) + 1) = ((j + 1 : Nat) : Int) by have := HD.out.1.short; unfold wrap64; omega)
      have HC := Lib.hid (fun (w' : World) (h1 : RdU w' v0 (pti l[j].p)) (h2 : RdU w' vp (pti p)) => rCmp_any l[j].p p v0 vp w' h1 h2 (by rw [HD.out.1.et.len _ (List.getElem_mem hlt), HD.out.2.len]) (by rw [HD.out.1.et.len _ (List.getElem_mem hlt)]; exact HD.out.1.k40) (HD.out.1.et.ok _ (List.getElem_mem hlt)) HD.out.2.ok)
      obtain ⟨A0, cc, e0, _⟩ := RdU.point hv0
      subst e0
      clear hv0
      have h := HB.out
      by_cases hz : Zb.cmp l[j].p p < 0
      · have HN := Lib.hid (show ∀ q (hq : q < l.length), q < j + 1 → En.key l[q] < pkey p from fun q hq hqj => by
          by_cases e : q < j
          · exact HA.out q hq e
          · obtain rfl : q = j := by omega
            exact (cmp_neg _ _).1 hz)
        generalize Zb.cmp l[j].p p = z at *
        have hz' : ¬ z ≥ 0 := by omega
        clear hz
        go_wp2_with fail
        refine (HC.out _ (RdU.below HV.out (by repeat (first | exact Below.refl _ _ | assumption | (refine Below.drew ?_) | (refine below_drewN' ?_ _) | (refine below_alloc' ?_ _)))) (RdU.below HP.out (by repeat (first | exact Below.refl _ _ | assumption | (refine Below.drew ?_) | (refine below_drewN' ?_ _) | (refine below_alloc' ?_ _))))).mono ?_
        rintro e w' ⟨rfl, rfl⟩
        go_wp2_with fail
        go_roundw
        case rel => exact ⟨j + 1, by omega, by rw [HW.out], HN.out, (by repeat (first | exact Below.refl _ _ | assumption | (refine Below.drew ?_) | (refine below_drewN' ?_ _) | (refine below_alloc' ?_ _)))⟩
        case measure => rw [intOf_of' HW.out, intOf_of' rfl]; omega
      · have HN := Lib.hid (Od.place_at (key := En.key) (n := pkey p) j hlt (fun q hq h => HA.out q hq h) (fun h => hz ((cmp_neg _ _).2 h)))
        have HZ := Lib.hid (show (Zb.cmp l[j].p p == 0) = decide (En.key l[j] = pkey p) by
          apply bool_ext
          simp only [beq_iff_eq, decide_eq_true_eq]
          exact cmp_zero _ _)
        generalize Zb.cmp l[j].p p = z at *
        have hz' : z ≥ 0 := by omega
        clear hz
        go_wp2_with fail
        refine (HC.out _ (RdU.below HV.out (by repeat (first | exact Below.refl _ _ | assumption | (refine Below.drew ?_) | (refine below_drewN' ?_ _) | (refine below_alloc' ?_ _)))) (RdU.below HP.out (by repeat (first | exact Below.refl _ _ | assumption | (refine Below.drew ?_) | (refine below_drewN' ?_ _) | (refine below_alloc' ?_ _))))).mono ?_
        rintro e w' ⟨rfl, rfl⟩
        go_wp2_with fail
        go_ret2
        exact ⟨by rw [HN.out, ← HZ.out] <;> rfl, (by repeat (first | exact Below.refl _ _ | assumption | (refine Below.drew ?_) | (refine below_drewN' ?_ _) | (refine below_alloc' ?_ _)))⟩
    · have HN := Lib.hid (Od.place_end (key := En.key) (n := pkey p) (l := l) (fun q hq => HA.out q hq (by omega)))
      have h := HB.out
      go_wp2_with fail
      go_ret2
      exact ⟨by rw [HN.out] <;> rfl, (by repeat (first | exact Below.refl _ _ | assumption | (refine Below.drew ?_) | (refine below_drewN' ?_ _) | (refine below_alloc' ?_ _)))⟩

theorem rGet_any (k : Nat) (l : List En) (p : List Nat) (v vp : Value) (w : World) (hv : RdE w v l) (hp : RdU w vp (pti p)) (hl : EtS k l) (hs : PtS k p) :
    Calls Try.prog 23 #[v, vp] w fun e w' => e = .returned (.tuple #[.int .u64 ((getE l p).getD 0 : Nat), .bool (getE l p).isSome]) ∧ Below w.heap.size w w' := by
  have HL := Lib.hid (show getE l p = if (Od.place En.key (pkey p) l).2 then (l[(Od.place En.key (pkey p) l).1]?).map (·.v) else none by
    unfold getE; rw [Od.look_place hl.et.asc]; split <;> rfl)
  have HP := Lib.hid (rPlace_any k l p v vp w hv hp hl hs)
  obtain ⟨A, c, rfl, hcap, ga0⟩ := hv
  cases hb : (Od.place En.key (pkey p) l).2 with
  | false =>
    rw [hb] at HP HL
    generalize (Od.place En.key (pkey p) l).1 = i at *
    rw [show getE l p = none from HL.out]
    clear ga0 hcap hp hl hs hb HL
    go_enter Try.func23, Try.ntmps23
    go_wp2_with fail
    refine HP.out.mono ?_
    rintro e w' ⟨rfl, hb⟩
    go_wp2_with fail
    go_ret2
    exact ⟨rfl, hb⟩
  | true =>
    obtain ⟨hi, _⟩ := Od.place_lt hb
    rw [hb] at HP HL
    generalize (Od.place En.key (pkey p) l).1 = i at *
    have HE := Lib.hid (show getE l p = some l[i].v by rw [HL.out]; simp [hi])
    obtain ⟨b, o, rfl, ga⟩ := ga0 (by omega)
    have HC := Lib.hid (ga i hi)
    have h3 : (i : Int) < l.length := by omega
    have h5 : (0 : Int) ≤ (i : Int) := by omega
    rw [HE.out]
    clear ga0 ga hcap hp hl hs hb HL HE
    go_enter Try.func23, Try.ntmps23
    go_wp2_with fail
    refine HP.out.mono ?_
    rintro e w' ⟨rfl, hb⟩
    obtain ⟨v0, c0, hv0, c1⟩ := HC.out.keep (Below.keeps hb)
    clear c0 hv0
    go_wp2_with fail
    go_ret2
    exact ⟨rfl, hb⟩
end Go.Proofs.Ytdkomhmciihkiaa
/-! Ref06b -/
namespace Go.Proofs.Ytdkomhmciihkiaa
open Go.RowKit
set_option linter.unusedVariables false
set_option linter.unusedSimpArgs false

theorem RdE.drop' {w : World} {b o c : Nat} {l : List En} (h : RdE w (.slice (some ⟨b, o, none⟩) l.length c) l) (k : Nat) (hk : k ≤ l.length) :
    RdE w (.slice (if c = k then some ⟨b, o, none⟩ else some ⟨b, o + k * 2, none⟩) (l.length - k) (c - k)) (l.drop k) := by
  have := h.drop k hk
  rw [show (if c = k then some (⟨b, o, none⟩ : Addr) else some ⟨b, o + k * 2, none⟩) = (if c = k then some ⟨b, o, none⟩ else (some (⟨b, o, none⟩ : Addr)).map (·.add (k * 2))) by
    split
    · rfl
    · simp only [Option.map_some, Addr.add]
      split
      · rename_i h0; rw [h0]; rfl
      · rfl]
  exact this
/-- a slice of entries is handed back -/
def RetE (W : World) (l : List En) (e : Ending) (w' : World) : Prop := ∃ v, e = .returned v ∧ RdE w' v l ∧ Below W.heap.size W w'
theorem RetE.mk {W w' : World} {l : List En} {v : Value} (h : RdE w' v l) (hb : Below W.heap.size W w') : RetE W l (.returned v) w' := ⟨v, rfl, h, hb⟩

theorem run_append_E0 (W w : World) (v x : Value) (m : List En) (g : Nat) (hg : v = .slice (some ⟨g, 0, none⟩) 0 0) (hown : OwnE W w v []) (hx : SrcE W w x m) (hb : Below W.heap.size W w) (hlen : m.length ≤ 100000) (ty : TypeId) :
    ∃ v' w', (Builtin.append_ #[27, 27] ty #[v, x]).run Try.prog w = .ok v' w' ∧ OwnE W w' v' m ∧ Below w.heap.size w w' := by
  subst hg
  obtain ⟨cs, ho, hc⟩ := hown
  obtain rfl : cs = [] := hc
  obtain ⟨ds, hd, hx⟩ := hx
  obtain ⟨v', w', a1, a2, a3⟩ := run_append_lit (P := Try.prog) w W.heap.size 27 ty 44 _ 2 32 Try.underlying27 entryInfo rfl (by omega) g ho x m.length ds hx (by simp only [maxLen]; omega) (by omega) hb.size
  exact ⟨v', w', a1, ⟨_, a2, hd⟩, a3⟩

set_option maxRecDepth 8000 in
set_option maxHeartbeats 1000000 in
theorem rDel_any (k : Nat) (l : List En) (p : List Nat) (v vp : Value) (w : World) (hv : RdE w v l) (hp : RdU w vp (pti p)) (hl : EtS k l) (hs : PtS k p) :
    Calls Try.prog 24 #[v, vp] w fun e w' => RetE w (delE p l) e w' := by
  have HP := Lib.hid (rPlace_any k l p v vp w hv hp hl hs)
  have HL := Lib.hid (Od.del_place (key := En.key) (n := pkey p) hl.et.asc)
  have HV := Lib.hid hv
  obtain ⟨A, c, rfl, hcap, ga0⟩ := hv
  cases hb : (Od.place En.key (pkey p) l).2 with
  | false =>
    rw [hb] at HP HL
    generalize (Od.place En.key (pkey p) l).1 = i at *
    have HE := Lib.hid (show delE p l = l from HL.out)
    clear ga0 hcap hp hl hs hb HL
    go_enter Try.func24, Try.ntmps24
    go_wp2_with fail
    refine HP.out.mono ?_
    rintro e w' ⟨rfl, hb⟩
    go_wp2_with fail
    go_ret
    rw [HE.out]
    exact RetE.mk (HV.out.below hb) hb
  | true =>
    obtain ⟨hq, hqk⟩ := Od.place_lt hb
    clear hqk
    rw [hb] at HP HL
    generalize (Od.place En.key (pkey p) l).1 = q at *
    have HE := Lib.hid (show delE p l = l.take q ++ l.drop (q + 1) from HL.out)
    obtain ⟨bk, ofs, rfl, ga⟩ := ga0 (by omega)
    have HN := Lib.hid (And.intro hl.short hq)
    have hw : IntKind.i64.wrap ((q : Int) + 1) = ((q + 1 : Nat) : Int) := IntWalk.i64_in _ (by have := hl.short; omega)
    have HT := Lib.hid (HV.out.take q (by omega))
    have HU := Lib.hid (HV.out.drop' (q + 1) (by omega))
    have h3 : q ≤ c := by omega
    have h4 : (0 : Int) ≤ (q : Int) + 1 := by omega
    have h5 : (q : Int) + 1 ≤ (l.length : Int) := by omega
    have h6 : q + 1 ≤ c := by omega
    clear ga0 ga hcap hp hl hs hb HL hq
    go_enter Try.func24, Try.ntmps24
    go_wp2_with fail
    refine HP.out.mono ?_
    rintro e w' ⟨rfl, hb⟩
    have HS := Lib.hid hb
    go_wp2_with fail
    refine wp_region_vals 9 [fun v9 w9 => OwnE w w9 v9 [] ∧ ∃ g, v9 = .slice (some ⟨g, 0, none⟩) 0 0,
      fun v _ => v = .slice (some ⟨bk, ofs, none⟩) l.length c,
      fun v _ => v = .int .i64 (q : Nat),
      fun v9 w9 => RdE w v9 (l.take q),
      fun v9 w9 => OwnE w w9 v9 (l.take q),
      fun v _ => v = .slice (some ⟨bk, ofs, none⟩) l.length c,
      fun v _ => v = .int .i64 (q : Nat),
      fun v _ => v = .int .i64 ((q + 1 : Nat) : Int),
      fun v9 w9 => RdE w v9 (l.drop (q + 1))]
      (by kernel_rfl) (by kernel_rfl) (by kernel_rfl) (by kernel_rfl) ?_ ?_ ?_
    · intro V hV v w1 w2 h hb
      simp only [List.mem_cons, List.not_mem_nil, or_false] at hV
      rcases hV with rfl | rfl | rfl | rfl | rfl | rfl | rfl | rfl | rfl
      all_goals first | exact h | (first | exact ⟨h.1.below hb, h.2⟩ | exact OwnE.below h hb)
    · intro i o hi ho
      match i, hi with
      | 0, _ =>
      obtain rfl := Option.some.inj ho
      intro a1 w1 K hk hK
      simp [Region.wanted, Oper.wp, Act.eval, go_sem, hw, h3, h4, h5, h6]
      exact hK _ _ (by repeat (first | exact Below.refl _ _ | assumption | (refine Below.drew ?_) | (refine below_drewN' ?_ _) | (refine below_alloc' ?_ _))) ⟨OwnE.lit (Nat.le_trans HS.out.size hk.ext.size) rfl, _, rfl⟩
      | 1, _ =>
      obtain rfl := Option.some.inj ho
      intro a1 w1 K hk hK
      have e0 : a1.tmps.getD 0 undef = .slice (some ⟨bk, ofs, none⟩) l.length c := hk.same 0 (by simp)
      simp [Region.wanted, Oper.wp, Act.eval, go_sem, e0, hw, h3, h4, h5, h6]
      exact hK _ _ (Below.refl _ _) rfl
      | 2, _ =>
      obtain rfl := Option.some.inj ho
      intro a1 w1 K hk hK
      have e5 : a1.tmps.getD 5 undef = .int .i64 (q : Nat) := hk.same 5 (by simp)
      simp [Region.wanted, Oper.wp, Act.eval, go_sem, e5, hw, h3, h4, h5, h6]
      exact hK _ _ (Below.refl _ _) rfl
      | 3, _ =>
      obtain rfl := Option.some.inj ho
      intro a1 w1 K hk hK
      have d17 : a1.tmps.getD 17 undef = .slice (some ⟨bk, ofs, none⟩) l.length c := hk.deps ⟨1, .data⟩ (by simp) rfl _ _ rfl rfl
      have d18 : a1.tmps.getD 18 undef = .int .i64 (q : Nat) := hk.deps ⟨2, .data⟩ (by simp) rfl _ _ rfl rfl
      simp [Region.wanted, Oper.wp, Act.eval, go_sem, d17, d18, hw, h3, h4, h5, h6]
      exact hK _ _ (by repeat (first | exact Below.refl _ _ | assumption | (refine Below.drew ?_) | (refine below_drewN' ?_ _) | (refine below_alloc' ?_ _))) HT.out
      | 4, _ =>
      obtain rfl := Option.some.inj ho
      intro a1 w1 K hk hK
      have D16 : OwnE w w1 (a1.tmps.getD 16 undef) [] ∧ ∃ g, (a1.tmps.getD 16 undef) = .slice (some ⟨g, 0, none⟩) 0 0 := hk.deps ⟨0, .data⟩ (by simp) rfl _ _ rfl rfl
      have D19 : RdE w (a1.tmps.getD 19 undef) (l.take q) := hk.deps ⟨3, .data⟩ (by simp) rfl _ _ rfl rfl
      obtain ⟨D16, g, D16'⟩ := D16
      have hbe : Below w.heap.size w w1 := below_trans HS.out (below_trans (by repeat (first | exact Below.refl _ _ | assumption | (refine Below.drew ?_) | (refine below_drewN' ?_ _) | (refine below_alloc' ?_ _))) hk.ext)
      obtain ⟨v', w', hrun, r1, r2⟩ := run_append_E0 w w1 _ _ _ g D16' D16 (D19.src hbe) hbe (by have := HN.out; rw [List.length_take]; omega) 27
      split
      · exact wp_append_run (s := .tmp 16) (x := .tmp 19) rfl hrun (hK _ _ r2 r1)
      · rename_i hw0; simp [Region.wanted] at hw0
      | 5, _ =>
      obtain rfl := Option.some.inj ho
      intro a1 w1 K hk hK
      have e0 : a1.tmps.getD 0 undef = .slice (some ⟨bk, ofs, none⟩) l.length c := hk.same 0 (by simp)
      simp [Region.wanted, Oper.wp, Act.eval, go_sem, e0, hw, h3, h4, h5, h6]
      exact hK _ _ (Below.refl _ _) rfl
      | 6, _ =>
      obtain rfl := Option.some.inj ho
      intro a1 w1 K hk hK
      have e5 : a1.tmps.getD 5 undef = .int .i64 (q : Nat) := hk.same 5 (by simp)
      simp [Region.wanted, Oper.wp, Act.eval, go_sem, e5, hw, h3, h4, h5, h6]
      exact hK _ _ (Below.refl _ _) rfl
      | 7, _ =>
      obtain rfl := Option.some.inj ho
      intro a1 w1 K hk hK
      have d22 : a1.tmps.getD 22 undef = .int .i64 (q : Nat) := hk.deps ⟨6, .data⟩ (by simp) rfl _ _ rfl rfl
      simp [Region.wanted, Oper.wp, Act.eval, go_sem, d22, hw, h3, h4, h5, h6]
      exact hK _ _ (Below.refl _ _) rfl
      | 8, _ =>
      obtain rfl := Option.some.inj ho
      intro a1 w1 K hk hK
      have d21 : a1.tmps.getD 21 undef = .slice (some ⟨bk, ofs, none⟩) l.length c := hk.deps ⟨5, .data⟩ (by simp) rfl _ _ rfl rfl
      have d23 : a1.tmps.getD 23 undef = .int .i64 ((q + 1 : Nat) : Int) := hk.deps ⟨7, .data⟩ (by simp) rfl _ _ rfl rfl
      simp [Region.wanted, Oper.wp, Act.eval, go_sem, d21, d23, hw, h3, h4, h5, h6]
      exact hK _ _ (by repeat (first | exact Below.refl _ _ | assumption | (refine Below.drew ?_) | (refine below_drewN' ?_ _) | (refine below_alloc' ?_ _))) HU.out
    · intro vs w3 hl hb3 hv
      match vs, hl with
      | [v0, v1, v2, v3, v4, v5, v6, v7, v8], _ =>
      have q0 : OwnE w w3 v0 [] ∧ ∃ g, v0 = .slice (some ⟨g, 0, none⟩) 0 0 := hv 0 (by omega)
      obtain rfl : v1 = .slice (some ⟨bk, ofs, none⟩) l.length c := hv 1 (by omega)
      obtain rfl : v2 = .int .i64 (q : Nat) := hv 2 (by omega)
      have q3 : RdE w v3 (l.take q) := hv 3 (by omega)
      have q4 : OwnE w w3 v4 (l.take q) := hv 4 (by omega)
      obtain rfl : v5 = .slice (some ⟨bk, ofs, none⟩) l.length c := hv 5 (by omega)
      obtain rfl : v6 = .int .i64 (q : Nat) := hv 6 (by omega)
      obtain rfl : v7 = .int .i64 ((q + 1 : Nat) : Int) := hv 7 (by omega)
      have q8 : RdE w v8 (l.drop (q + 1)) := hv 8 (by omega)
      clear hv
      simp only [putAll, List.take_succ_cons, List.take_zero, List.drop_succ_cons, List.drop_zero, Act.put, List.setIfInBounds_toArray, List.set_cons_succ, List.set_cons_zero]
      refine wpList_append_E rfl (.tmp 20) (.tmp 24) rfl w (l.take q) (l.drop (q + 1)) q4 (q8.src (below_trans HS.out hb3)) (below_trans HS.out hb3) (by have := HN.out; rw [List.length_take, List.length_drop]; omega) ?_
      intro v' w' hown hbw
      go_wp2_with fail
      go_ret
      rw [HE.out]
      exact RetE.mk (hown.rd hbw) hbw

theorem EtS.del {k : Nat} {l : List En} (h : EtS k l) (p : List Nat) : EtS k (delE p l) := ⟨h.et.del p, h.k40, Nat.le_trans Od.del_length h.short⟩
set_option maxRecDepth 8000 in
set_option maxHeartbeats 1000000 in
theorem rPut_any (k : Nat) (l : List En) (p : List Nat) (x : Nat) (v vp : Value) (w : World) (hv : RdE w v l) (hp : RdU w vp (pti p)) (hl : EtS k l) (hs : PtS k p) :
    Calls Try.prog 25 #[v, vp, .int .u64 (x : Nat)] w fun e w' => RetE w (insE p x l) e w' := by
  have HD := Lib.hid (rDel_any k l p v vp w hv hp hl hs)
  have HQ := Lib.hid (fun (v : Value) (w : World) (hv : RdE w v (delE p l)) (hp : RdU w vp (pti p)) => rPlace_any k (delE p l) p v vp w hv hp (hl.del p) hs)
  have HE := Lib.hid (show insE p x l = (delE p l).take (Od.place En.key (pkey p) (delE p l)).1 ++ ⟨p, x⟩ :: (delE p l).drop (Od.place En.key (pkey p) (delE p l)).1 from (Od.ins_place (key := En.key) (x := ⟨p, x⟩) hl.et.asc).trans (by rw [List.append_assoc]; rfl))
  have HN := Lib.hid (And.intro (hl.del p).short (Od.place_le En.key (pkey p) (delE p l)))
  have HP := Lib.hid hp
  obtain ⟨A0, cc, rfl, hx0⟩ := RdU.point hp
  clear hx0
  generalize (Od.place En.key (pkey p) (delE p l)).1 = q at *
  generalize (Od.place En.key (pkey p) (delE p l)).2 = fl at *
  generalize delE p l = m at *
  clear hl hs hv hp
  go_enter Try.func25, Try.ntmps25
  go_wp2_with fail
  refine HD.out.mono ?_
  rintro e w1 ⟨v1, rfl, hv1, hb1⟩
  have HB := Lib.hid hb1
  go_wp2_with fail
  refine (HQ.out _ _ hv1 (HP.out.below HB.out)).mono ?_
  rintro e w2 ⟨rfl, hb2⟩
  have HB2 := Lib.hid (HB.out.trans (hb2.mono HB.out.size))
  have HV := Lib.hid (hv1.below hb2)
  have HP2 := Lib.hid (HP.out.below HB2.out)
  clear hb2
  obtain ⟨A, c, rfl, hcap, hx⟩ := hv1
  have h3 : q ≤ c := by have := HN.out; omega
  have h4 : (q : Int) ≤ (m.length : Int) := by have := HN.out; omega
  by_cases hc : 0 < c
  · obtain ⟨bk, ofs, rfl⟩ := hcap.2.2 hc
    clear hcap hx hc hb1
    have HT := Lib.hid (HV.out.take q HN.out.2)
    have HU := Lib.hid (HV.out.drop' q HN.out.2)
    by_cases hcq : c = q
    · obtain rfl : q = c := hcq.symm
      rw [if_pos rfl, Nat.sub_self] at HU
      go_wp2_with ((at_builtin; refine wpList_append_E rfl (.tmp 19) (.tmp 22) rfl w2 [] (m.take q) ?_ ?_ ?_ ?_ ?_))
      · exact OwnE.lit (Nat.le_refl _) rfl
      · exact HT.out.src (by repeat (first | exact Below.refl _ _ | assumption | (refine Below.drew ?_) | (refine below_drewN' ?_ _) | (refine below_alloc' ?_ _)))
      · exact (by repeat (first | exact Below.refl _ _ | assumption | (refine Below.drew ?_) | (refine below_drewN' ?_ _) | (refine below_alloc' ?_ _)))
      · have := HN.out; simp; try omega
      intro v3 w3 hown3 hb3
      have HB3 := Lib.hid hb3
      clear hb3
      go_wp2_with ((at_builtin; refine wpList_append_E rfl (.tmp 23) (.tmp 27) rfl w2 (m.take q) [⟨p, x⟩] ?_ ?_ ?_ ?_ ?_))
      · exact hown3.alloc _
      · exact SrcE.one (by simp [go_sem]) HP2.out (by simp [go_sem])
      · have h := HB3.out; exact (by repeat (first | exact Below.refl _ _ | assumption | (refine Below.drew ?_) | (refine below_drewN' ?_ _) | (refine below_alloc' ?_ _)))
      · have := HN.out; simp; try omega
      intro v4 w4 hown4 hb4
      have HB4 := Lib.hid hb4
      clear hb4
      go_wp2_with ((at_builtin; refine wpList_append_E rfl (.tmp 29) (.tmp 32) rfl w2 (m.take q ++ [⟨p, x⟩]) (m.drop q) ?_ ?_ ?_ ?_ ?_))
      · exact hown4
      · exact HU.out.src HB4.out
      · exact HB4.out
      · have := HN.out; simp; try omega
      intro v5 w5 hown5 hb5
      go_wp2_with fail
      go_ret
      rw [HE.out]
      exact RetE.mk (by simpa using hown5.rd hb5) (HB2.out.trans (hb5.mono HB2.out.size))
    · rw [if_neg hcq] at HU
      go_wp2_with ((at_builtin; refine wpList_append_E rfl (.tmp 19) (.tmp 22) rfl w2 [] (m.take q) ?_ ?_ ?_ ?_ ?_))
      · exact OwnE.lit (Nat.le_refl _) rfl
      · exact HT.out.src (by repeat (first | exact Below.refl _ _ | assumption | (refine Below.drew ?_) | (refine below_drewN' ?_ _) | (refine below_alloc' ?_ _)))
      · exact (by repeat (first | exact Below.refl _ _ | assumption | (refine Below.drew ?_) | (refine below_drewN' ?_ _) | (refine below_alloc' ?_ _)))
      · have := HN.out; simp; try omega
      intro v3 w3 hown3 hb3
      have HB3 := Lib.hid hb3
      clear hb3
      go_wp2_with ((at_builtin; refine wpList_append_E rfl (.tmp 23) (.tmp 27) rfl w2 (m.take q) [⟨p, x⟩] ?_ ?_ ?_ ?_ ?_))
      · exact hown3.alloc _
      · exact SrcE.one (by simp [go_sem]) HP2.out (by simp [go_sem])
      · have h := HB3.out; exact (by repeat (first | exact Below.refl _ _ | assumption | (refine Below.drew ?_) | (refine below_drewN' ?_ _) | (refine below_alloc' ?_ _)))
      · have := HN.out; simp; try omega
      intro v4 w4 hown4 hb4
      have HB4 := Lib.hid hb4
      clear hb4
      go_wp2_with ((at_builtin; refine wpList_append_E rfl (.tmp 29) (.tmp 32) rfl w2 (m.take q ++ [⟨p, x⟩]) (m.drop q) ?_ ?_ ?_ ?_ ?_))
      · exact hown4
      · exact HU.out.src HB4.out
      · exact HB4.out
      · have := HN.out; simp; try omega
      intro v5 w5 hown5 hb5
      go_wp2_with fail
      go_ret
      rw [HE.out]
      exact RetE.mk (by simpa using hown5.rd hb5) (HB2.out.trans (hb5.mono HB2.out.size))
  · obtain rfl : c = 0 := by omega
    obtain rfl : m = [] := List.eq_nil_of_length_eq_zero (by omega)
    obtain rfl : q = 0 := by omega
    clear hcap hx hc hb1 h3 h4
    simp only [List.length_nil] at *
    go_wp2_with ((at_builtin; refine wpList_append_E rfl (.tmp 19) (.tmp 22) rfl w2 [] (([] : List En)) ?_ ?_ ?_ ?_ ?_))
    · exact OwnE.lit (Nat.le_refl _) rfl
    · exact (RdE.nil w2 A 0 (by simp [maxLen]) (fun h => absurd h (by omega))).src (by repeat (first | exact Below.refl _ _ | assumption | (refine Below.drew ?_) | (refine below_drewN' ?_ _) | (refine below_alloc' ?_ _)))
    · exact (by repeat (first | exact Below.refl _ _ | assumption | (refine Below.drew ?_) | (refine below_drewN' ?_ _) | (refine below_alloc' ?_ _)))
    · have := HN.out; simp; try omega
    intro v3 w3 hown3 hb3
    have HB3 := Lib.hid hb3
    clear hb3
    go_wp2_with ((at_builtin; refine wpList_append_E rfl (.tmp 23) (.tmp 27) rfl w2 (([] : List En)) [⟨p, x⟩] ?_ ?_ ?_ ?_ ?_))
    · exact hown3.alloc _
    · exact SrcE.one (by simp [go_sem]) HP2.out (by simp [go_sem])
    · have h := HB3.out; exact (by repeat (first | exact Below.refl _ _ | assumption | (refine Below.drew ?_) | (refine below_drewN' ?_ _) | (refine below_alloc' ?_ _)))
    · have := HN.out; simp; try omega
    intro v4 w4 hown4 hb4
    have HB4 := Lib.hid hb4
    clear hb4
    go_wp2_with ((at_builtin; refine wpList_append_E rfl (.tmp 29) (.tmp 32) rfl w2 (([] : List En) ++ [⟨p, x⟩]) (([] : List En)) ?_ ?_ ?_ ?_ ?_))
    · exact hown4
    · exact (RdE.nil w2 A 0 (by simp [maxLen]) (fun h => absurd h (by omega))).src HB4.out
    · exact HB4.out
    · have := HN.out; simp; try omega
    intro v5 w5 hown5 hb5
    go_wp2_with fail
    go_ret
    rw [HE.out]
    exact RetE.mk (by simpa using hown5.rd hb5) (HB2.out.trans (hb5.mono HB2.out.size))
end Go.Proofs.Ytdkomhmciihkiaa
/-! TrF -/
namespace Go
theorem getD_bool {t : Array Value} {d : Nat} {b : Bool} (h : t.getD d undef = .bool b) : t[d]? = some (.bool b) := by
  rw [Array.getD_eq_getD_getElem?] at h
  cases hx : t[d]? with
  | none => rw [hx] at h; cases h
  | some v => rw [hx] at h; simp only [Option.getD_some] at h; rw [h]
end Go
namespace Go.Proofs.Ytdkomhmciihkiaa
open Go.RowKit
set_option linter.unusedVariables false
set_option linter.unusedSimpArgs false

/-- an act -/
structure Ac where
  del : Bool
  p : List Nat
  v : Nat
deriving Inhabited
/-- what an act makes of a list -/
def stepL (k : Nat) (l : List En) (a : Ac) : List En := if a.p.length = k then (if a.del then delE a.p l else insE a.p a.v l) else l
def Ac.Ok (a : Ac) : Prop := a.p.length ≤ 40 ∧ (∀ c ∈ a.p, c < 2 ^ 64) ∧ a.v < 2 ^ 64
theorem Et.step {k : Nat} {l : List En} (h : Et k l) (a : Ac) (ha : a.Ok) : Et k (stepL k l a) := by
  unfold stepL
  split
  · split
    · exact h.del _
    · exact h.ins _ (by assumption) ha.2.1
  · exact h
theorem step_len (k : Nat) (l : List En) (a : Ac) : (stepL k l a).length ≤ l.length + 1 := by
  unfold stepL
  split
  · split
    · exact Nat.le_trans Od.del_length (Nat.le_succ _)
    · exact Od.ins_length
  · omega
theorem del_absent {l : List En} {p : List Nat} (h : getE l p = none) : delE p l = l := by
  unfold getE at h
  have h' : Od.look En.key l (pkey p) = none := by
    cases e : Od.look En.key l (pkey p) with
    | none => rfl
    | some x => rw [e] at h; cases h
  have h2 := Od.look_none (key := En.key) h'
  clear h h'
  unfold delE
  induction l with
  | nil => rfl
  | cons x l ih => unfold Od.del; rw [if_neg (h2 x (by simp))]; rw [ih fun y hy => h2 y (by simp [hy])]
set_option maxRecDepth 100000
theorem treeInfo : ∃ j, Try.prog.info? 74 = some j ∧ j.size ≠ 0 := by
  have h : (Try.prog.info? 74).map (fun i => i.size) = some 2 := by kernel_rfl
  cases e : Try.prog.info? 74 with
  | none => rw [e] at h; cases h
  | some j => 
    rw [e] at h
    have h : j.size = 2 := by simpa using h
    exact ⟨j, rfl, by omega⟩
theorem treeUnder : Try.prog.underlying 26 = some (.pointer 74) := by kernel_rfl
theorem tree_same (w : World) (g : Nat) : (binOp .eql 26 (.pointer (some ⟨g, 0, none⟩)) (.pointer (some ⟨g, 0, none⟩))).run Try.prog w = .ok (.bool true) w := by
  obtain ⟨j, hj, _⟩ := treeInfo
  exact run_eql_ptr_same w _ treeUnder hj
theorem tree_other {w : World} {g t k k' : Nat} {l l' : List En} (hg : TrR w g k l) (ht : TrR w t k' l') (hne : g ≠ t) : (binOp .eql 26 (.pointer (some ⟨g, 0, none⟩)) (.pointer (some ⟨t, 0, none⟩))).run Try.prog w = .ok (.bool false) w := by
  obtain ⟨c1, h1⟩ := hg.blk
  obtain ⟨c2, h2⟩ := ht.blk
  obtain ⟨j, hj, hsz⟩ := treeInfo
  exact run_eql_ptr_other w treeUnder hj hsz (by intro h; injection h with h; exact hne h) h1 h2
/-- Done -/
def DoneP (W : World) (k : Nat) (l : List En) (e : Ending) (w' : World) : Prop := ∃ t vin, e = .returned (.tuple #[.pointer (some ⟨t, 0, none⟩), vin, .bool true]) ∧ TrR w' t k l ∧ RdE w' vin l ∧ Below W.heap.size W w'
set_option maxHeartbeats 4000000 in
theorem done_del (w : World) (t k : Nat) (p : List Nat) (v : Nat) (l : List En) (vin vp : Value) (ht : TrR w t k l) (hin : RdE w vin l) (hl : EtS k l) (hp : RdU w vp (pti p)) (ho : p.length ≤ 40 ∧ (∀ c ∈ p, c < 2 ^ 64) ∧ v < 2 ^ 64) :
    Calls Try.prog 10 #[.pointer (some ⟨t, 0, none⟩), vin, .agg #[.bool true, vp, .int .u64 (v : Nat)]] w fun e w' => DoneP w k (stepL k l ⟨true, p, v⟩) e w' := by
  have HTK := Lib.hid (fun w1 (hb : Below w.heap.size w w1) => tk_any w1 t k (ht.bel hb).c0)
  have HT := Lib.hid (And.intro ht hin)
  have HV := Lib.hid hp
  have HD := Lib.hid ho
  have HL := Lib.hid hl
  obtain ⟨A2, c2, rfl, _⟩ := RdU.point hp
  obtain ⟨AI, cI, rfl, _⟩ := hin
  by_cases hk : p.length = k
  · have hps : PtS k p := ⟨hk, ho.2.1⟩
    have HRG := Lib.hid (fun w1 (hb : Below w.heap.size w w1) => rGet_any k l p _ _ w1 (HT.out.2.below hb) (HV.out.below hb) hl hps)
    have HRD := Lib.hid (fun w1 (hb : Below w.heap.size w w1) => rDel_any k l p _ _ w1 (HT.out.2.below hb) (HV.out.below hb) hl hps)
    have HTD := Lib.hid (fun w1 (hb : Below w.heap.size w w1) => tdel_any w1 t k p l _ (ht.bel hb) (HV.out.below hb) hk ho.2.1)
    have HST := Lib.hid (show stepL k l ⟨true, p, v⟩ = delE p l by unfold stepL; rw [if_pos hk]; rfl)
    have hn : ((p.length : Int) != (k : Int)) = false := by simp [hk]
    have HK := Lib.hid hk
    clear ht hp ho hl hps hk
    go_enter Try.func10, Try.ntmps10
    go_wp2_with fail
    refine (HTK.out _ (by repeat (first | exact Below.refl _ _ | (refine Below.drew ?_) | (refine below_drewN' ?_ _) | (refine below_alloc' ?_ _) | (refine Below.setCell ?_ (by first | exact Nat.le_refl _ | (simp; done) | (simp; omega)) _)))).mono ?_
    rintro e w1 ⟨rfl, hw⟩
    obtain rfl := hw.symm
    go_wp2_with fail
    refine (HTD.out _ (by repeat (first | exact Below.refl _ _ | (refine Below.drew ?_) | (refine below_drewN' ?_ _) | (refine below_alloc' ?_ _) | (refine Below.setCell ?_ (by first | exact Nat.le_refl _ | (simp; done) | (simp; omega)) _)))).mono ?_
    rintro e w1 ⟨hb, hc⟩
    have f1 : w1.cell? ⟨w.heap.size, 1, none⟩ = some (.slice A2 p.length c2) := Below.keeps hb _ _ (by simp [go_sem])
    have hBl := World.block_lt_of_cell? w1 _ f1
    have HB := Lib.hid (show Below w.heap.size w w1 from below_trans (by repeat (first | exact Below.refl _ _ | (refine Below.drew ?_) | (refine below_drewN' ?_ _) | (refine below_alloc' ?_ _) | (refine Below.setCell ?_ (by first | exact Nat.le_refl _ | (simp; done) | (simp; omega)) _))) hb)
    rcases hc with ⟨hg, rfl⟩ | ⟨x, g, hg, rfl, htd, hgs⟩
    · have HG := Lib.hid hg
      clear hb hg
      go_wp2_with fail
      refine (HRG.out _ (by repeat (first | exact HB.out | (refine Below.drew ?_) | (refine below_drewN' ?_ _) | (refine below_alloc' ?_ _) | (refine Below.setCell ?_ (by first | exact Nat.le_refl _ | (have := HB.out.size; simp; omega) | (have := HB.out.size; omega)) _)))).mono ?_
      rintro e w2 ⟨rfl, hb2⟩
      rw [HG.out]
      have HB2 := Lib.hid (HB.out.trans (hb2.mono HB.out.size))
      clear hb2
      go_wp2_with fail
      ((try simp only [Exit.inBlock, Exit.then]); refine bodyPost_ret (results_tmp3 rfl _ _ _) rfl ?_)
      rw [HST.out, del_absent HG.out]
      exact ⟨t, _, rfl, HT.out.1.bel (by repeat (first | exact HB2.out | (refine Below.drew ?_) | (refine below_drewN' ?_ _) | (refine below_alloc' ?_ _) | (refine Below.setCell ?_ (by first | exact Nat.le_refl _ | (have := HB2.out.size; simp; omega) | (have := HB2.out.size; omega)) _))), HT.out.2.below (by repeat (first | exact HB2.out | (refine Below.drew ?_) | (refine below_drewN' ?_ _) | (refine below_alloc' ?_ _) | (refine Below.setCell ?_ (by first | exact Nat.le_refl _ | (have := HB2.out.size; simp; omega) | (have := HB2.out.size; omega)) _))), (by repeat (first | exact HB2.out | (refine Below.drew ?_) | (refine below_drewN' ?_ _) | (refine below_alloc' ?_ _) | (refine Below.setCell ?_ (by first | exact Nat.le_refl _ | (have := HB2.out.size; simp; omega) | (have := HB2.out.size; omega)) _)))⟩
    · have HG := Lib.hid hg
      have HN := Lib.hid htd
      clear hb hg htd hgs
      go_wp2_with fail
      refine (HRG.out _ (by repeat (first | exact HB.out | (refine Below.drew ?_) | (refine below_drewN' ?_ _) | (refine below_alloc' ?_ _) | (refine Below.setCell ?_ (by first | exact Nat.le_refl _ | (have := HB.out.size; simp; omega) | (have := HB.out.size; omega)) _)))).mono ?_
      rintro e w2 ⟨rfl, hb2⟩
      rw [HG.out]
      have f3 := Below.keeps hb2 _ _ f1
      have HB2 := Lib.hid (HB.out.trans (hb2.mono HB.out.size))
      have HN2 := Lib.hid (HN.out.bel hb2)
      clear hb2 f1
      go_wp2_with fail
      refine (HRD.out _ (by repeat (first | exact HB2.out | (refine Below.drew ?_) | (refine below_drewN' ?_ _) | (refine below_alloc' ?_ _) | (refine Below.setCell ?_ (by first | exact Nat.le_refl _ | (have := HB2.out.size; simp; omega) | (have := HB2.out.size; omega)) _)))).mono ?_
      rintro e w3 ⟨v3, rfl, hin3, hb3⟩
      have HB3 := Lib.hid (HB2.out.trans (hb3.mono HB2.out.size))
      have HN3 := Lib.hid (And.intro (HN2.out.bel hb3) hin3)
      clear hb3 hin3
      go_wp2_with fail
      ((try simp only [Exit.inBlock, Exit.then]); refine bodyPost_ret (results_tmp3 rfl _ _ _) rfl ?_)
      rw [HST.out]
      exact ⟨g, _, rfl, HN3.out.1.bel (Below.refl _ _), HN3.out.2, HB3.out⟩
  · have HTD := Lib.hid (fun w1 (hb : Below w.heap.size w w1) => tdel_dim w1 t k p.length c2 A2 l (ht.bel hb) hk)
    have HST := Lib.hid (show stepL k l ⟨true, p, v⟩ = l by unfold stepL; rw [if_neg hk])
    have hn : ((p.length : Int) != (k : Int)) = true := by simp; omega
    have hn2 : ¬ (p.length : Int) = (k : Int) := by omega
    clear ht hp ho hl hk
    go_enter Try.func10, Try.ntmps10
    go_wp2_with fail
    refine (HTK.out _ (by repeat (first | exact Below.refl _ _ | (refine Below.drew ?_) | (refine below_drewN' ?_ _) | (refine below_alloc' ?_ _) | (refine Below.setCell ?_ (by first | exact Nat.le_refl _ | (simp; done) | (simp; omega)) _)))).mono ?_
    rintro e w1 ⟨rfl, hw⟩
    obtain rfl := hw.symm
    go_wp2_with fail
    refine (HTD.out _ (by repeat (first | exact Below.refl _ _ | (refine Below.drew ?_) | (refine below_drewN' ?_ _) | (refine below_alloc' ?_ _) | (refine Below.setCell ?_ (by first | exact Nat.le_refl _ | (simp; done) | (simp; omega)) _)))).mono ?_
    rintro e w1 ⟨rfl, hw⟩
    obtain rfl := hw.symm
    go_wp2_with fail
    ((try simp only [Exit.inBlock, Exit.then]); refine bodyPost_ret (results_tmp3 rfl _ _ _) rfl ?_)
    rw [HST.out]
    exact ⟨t, _, rfl, HT.out.1.bel (by repeat (first | exact Below.refl _ _ | (refine Below.drew ?_) | (refine below_drewN' ?_ _) | (refine below_alloc' ?_ _) | (refine Below.setCell ?_ (by first | exact Nat.le_refl _ | (simp; done) | (simp; omega)) _))), HT.out.2.below (by repeat (first | exact Below.refl _ _ | (refine Below.drew ?_) | (refine below_drewN' ?_ _) | (refine below_alloc' ?_ _) | (refine Below.setCell ?_ (by first | exact Nat.le_refl _ | (simp; done) | (simp; omega)) _))), (by repeat (first | exact Below.refl _ _ | (refine Below.drew ?_) | (refine below_drewN' ?_ _) | (refine below_alloc' ?_ _) | (refine Below.setCell ?_ (by first | exact Nat.le_refl _ | (simp; done) | (simp; omega)) _)))⟩
set_option maxHeartbeats 8000000 in
theorem done_put (w : World) (t k : Nat) (p : List Nat) (v : Nat) (l : List En) (vin vp : Value) (ht : TrR w t k l) (hin : RdE w vin l) (hl : EtS k l) (hp : RdU w vp (pti p)) (ho : p.length ≤ 40 ∧ (∀ c ∈ p, c < 2 ^ 64) ∧ v < 2 ^ 64) :
    Calls Try.prog 10 #[.pointer (some ⟨t, 0, none⟩), vin, .agg #[.bool false, vp, .int .u64 (v : Nat)]] w fun e w' => DoneP w k (stepL k l ⟨false, p, v⟩) e w' := by
  have HTK := Lib.hid (fun w1 (hb : Below w.heap.size w w1) => tk_any w1 t k (ht.bel hb).c0)
  have HT := Lib.hid (And.intro ht hin)
  have HV := Lib.hid hp
  have HD := Lib.hid ho
  have HL := Lib.hid hl
  have htl : t < w.heap.size := World.block_lt_of_cell? w _ ht.c0
  obtain ⟨A2, c2, rfl, _⟩ := RdU.point hp
  obtain ⟨AI, cI, rfl, _⟩ := hin
  by_cases hk : p.length = k
  · have hps : PtS k p := ⟨hk, ho.2.1⟩
    have HRG := Lib.hid (fun w1 (hb : Below w.heap.size w w1) => rGet_any k l p _ _ w1 (HT.out.2.below hb) (HV.out.below hb) hl hps)
    have HRP := Lib.hid (fun w1 (hb : Below w.heap.size w w1) => rPut_any k l p v _ _ w1 (HT.out.2.below hb) (HV.out.below hb) hl hps)
    have HTP := Lib.hid (fun w1 (hb : Below w.heap.size w w1) => tput_any w1 t k v p l _ (ht.bel hb) (HV.out.below hb) hk ho.2.1 ho.2.2)
    have HST := Lib.hid (show stepL k l ⟨false, p, v⟩ = insE p v l by unfold stepL; rw [if_pos hk]; rfl)
    have hn : ((p.length : Int) != (k : Int)) = false := by simp [hk]
    have HK := Lib.hid hk
    clear ht hp ho hl hps hk
    go_enter Try.func10, Try.ntmps10
    go_wp2_with fail
    refine (HTK.out _ (by repeat (first | exact Below.refl _ _ | (refine Below.drew ?_) | (refine below_drewN' ?_ _) | (refine below_alloc' ?_ _) | (refine Below.setCell ?_ (by first | exact Nat.le_refl _ | (simp; done) | (simp; omega)) _)))).mono ?_
    rintro e w1 ⟨rfl, hw⟩
    obtain rfl := hw.symm
    go_wp2_with fail
    refine (HTP.out _ (by repeat (first | exact Below.refl _ _ | (refine Below.drew ?_) | (refine below_drewN' ?_ _) | (refine below_alloc' ?_ _) | (refine Below.setCell ?_ (by first | exact Nat.le_refl _ | (simp; done) | (simp; omega)) _)))).mono ?_
    rintro e w1 ⟨g, rfl, htg, hb, hsame, hother⟩
    have f1 : w1.cell? ⟨w.heap.size, 1, none⟩ = some (.slice A2 p.length c2) := Below.keeps hb _ _ (by simp [go_sem])
    have f2 : w1.cell? ⟨w.heap.size, 2, none⟩ = some (.int .u64 (v : Nat)) := Below.keeps hb _ _ (by simp [go_sem])
    have hBl : w.heap.size < w1.heap.size := World.block_lt_of_cell? w1 _ f1
    have HB := Lib.hid (show Below w.heap.size w w1 from below_trans (by repeat (first | exact Below.refl _ _ | (refine Below.drew ?_) | (refine below_drewN' ?_ _) | (refine below_alloc' ?_ _) | (refine Below.setCell ?_ (by first | exact Nat.le_refl _ | (simp; done) | (simp; omega)) _))) hb)
    have hother' : getE l p ≠ some v → w.heap.size ≤ g := fun h => Nat.le_trans (by simp) (hother h)
    have HG := Lib.hid (And.intro hsame hother')
    have HN := Lib.hid htg
    have HWS := Lib.hid htl
    clear hsame hother hother' htg hb
    go_wp2_with fail
    refine (HRG.out _ (by repeat (first | exact HB.out | (refine Below.drew ?_) | (refine below_drewN' ?_ _) | (refine below_alloc' ?_ _) | (refine Below.setCell ?_ (by first | exact Nat.le_refl _ | (have := HB.out.size; simp; omega) | (have := HB.out.size; omega)) _)))).mono ?_
    rintro e w2 ⟨rfl, hb2⟩
    have HN2 := Lib.hid (And.intro (HN.out.bel hb2) (HB.out.trans (hb2.mono HB.out.size)))
    replace f1 := Below.keeps hb2 _ _ f1
    replace f2 := Below.keeps hb2 _ _ f2
    replace hBl := Nat.lt_of_lt_of_le hBl hb2.size
    clear hb2
    cases hget : getE l p with
    | none =>
      have hgt : ¬ g = t := by have := HG.out.2 (by rw [hget]; simp); omega
      have h1 := hgt
      have HEQ := Lib.hid (fun w3 (hb : Below w2.heap.size w2 w3) => tree_other (HN2.out.1.bel hb) ((HT.out.1.bel HN2.out.2).bel hb) hgt)
      have HGT := Lib.hid hget
      clear hget
      go_wp2_with fail
      refine wp_region_vals 28 [fun z9 _ => z9 = .pointer (some ⟨g, 0, none⟩),
        fun z9 _ => z9 = .slice AI l.length cI,
        fun z9 _ => z9 = .pointer (some ⟨w.heap.size, 1, none⟩),
        fun z9 _ => z9 = .slice A2 p.length c2,
        fun z9 _ => z9 = .pointer (some ⟨w.heap.size, 2, none⟩),
        fun z9 _ => z9 = .int .u64 (v : Nat),
        fun v9 w9 => RdE w9 v9 (insE p v l),
        fun z9 _ => z9 = .int .i64 0,
        fun z9 _ => z9 = .bool true,
        fun z9 _ => z9 = .bool true,
        fun z9 _ => z9 = .pointer (some ⟨g, 0, none⟩),
        fun z9 _ => z9 = .bool true,
        fun z9 _ => z9 = .bool true,
        fun z9 _ => z9 = .bool true,
        fun z9 _ => z9 = .bool false,
        fun z9 _ => z9 = .bool false,
        fun z9 _ => z9 = undef,
        fun z9 _ => z9 = undef,
        fun z9 _ => z9 = undef,
        fun z9 _ => z9 = undef,
        fun z9 _ => z9 = .bool false,
        fun z9 _ => z9 = .pointer (some ⟨g, 0, none⟩),
        fun z9 _ => z9 = .pointer (some ⟨t, 0, none⟩),
        fun z9 _ => z9 = .bool false,
        fun z9 _ => z9 = .bool true,
        fun z9 _ => z9 = .bool true,
        fun z9 _ => z9 = .pointer (some ⟨g, 0, none⟩),
        fun v9 w9 => RdE w9 v9 (insE p v l)]
        (by kernel_rfl) (by kernel_rfl) (by kernel_rfl) (by kernel_rfl) ?_ ?_ ?_
      · intro V hV v w1 w2 h hb
        simp only [List.mem_cons, List.not_mem_nil, or_false] at hV
        rcases hV with rfl | rfl | rfl | rfl | rfl | rfl | rfl | rfl | rfl | rfl | rfl | rfl | rfl | rfl | rfl | rfl | rfl | rfl | rfl | rfl | rfl | rfl | rfl | rfl | rfl | rfl | rfl | rfl
        all_goals first | exact h | (exact RdE.below h hb)
      · intro iq oq hiq hoq
        match iq, hiq with
        | 0, _ =>
        obtain rfl := Option.some.inj hoq
        intro a1 w1 K hk hK
        have e14 : a1.tmps.getD 14 undef = .pointer (some ⟨g, 0, none⟩) := hk.same 14 (by simp)
        simp [Region.wanted, Oper.wp, Act.eval, go_sem, e14, hgt, h1, f1, f2, hBl]
        exact hK _ _ (Below.refl _ _) rfl
        | 1, _ =>
        obtain rfl := Option.some.inj hoq
        intro a1 w1 K hk hK
        have e1 : a1.tmps.getD 1 undef = .slice AI l.length cI := hk.same 1 (by simp)
        simp [Region.wanted, Oper.wp, Act.eval, go_sem, e1, hgt, h1, f1, f2, hBl]
        exact hK _ _ (Below.refl _ _) rfl
        | 2, _ =>
        obtain rfl := Option.some.inj hoq
        intro a1 w1 K hk hK
        have e5 : a1.tmps.getD 5 undef = .pointer (some ⟨w.heap.size, 0, none⟩) := hk.same 5 (by simp)
        simp [Region.wanted, Oper.wp, Act.eval, go_sem, e5, hgt, h1, f1, f2, hBl]
        exact hK _ _ (Below.refl _ _) rfl
        | 3, _ =>
        obtain rfl := Option.some.inj hoq
        intro a1 w1 K hk hK
        have d101 : a1.tmps.getD 101 undef = .pointer (some ⟨w.heap.size, 1, none⟩) := hk.deps ⟨2, .data⟩ (by simp) rfl _ _ rfl rfl
        have c0 : w1.cell? ⟨w.heap.size, 1, none⟩ = some (.slice A2 p.length c2) := Below.keeps hk.ext _ _ (by simp [go_sem, hgt, h1, f1, f2, hBl])
        have c1 : w1.cell? ⟨w.heap.size, 2, none⟩ = some (.int .u64 (v : Nat)) := Below.keeps hk.ext _ _ (by simp [go_sem, hgt, h1, f1, f2, hBl])
        simp [Region.wanted, Oper.wp, Act.eval, go_sem, d101, c0, c1, hgt, h1, f1, f2, hBl]
        exact hK _ _ (Below.refl _ _) rfl
        | 4, _ =>
        obtain rfl := Option.some.inj hoq
        intro a1 w1 K hk hK
        have e5 : a1.tmps.getD 5 undef = .pointer (some ⟨w.heap.size, 0, none⟩) := hk.same 5 (by simp)
        simp [Region.wanted, Oper.wp, Act.eval, go_sem, e5, hgt, h1, f1, f2, hBl]
        exact hK _ _ (Below.refl _ _) rfl
        | 5, _ =>
        obtain rfl := Option.some.inj hoq
        intro a1 w1 K hk hK
        have d103 : a1.tmps.getD 103 undef = .pointer (some ⟨w.heap.size, 2, none⟩) := hk.deps ⟨4, .data⟩ (by simp) rfl _ _ rfl rfl
        have c0 : w1.cell? ⟨w.heap.size, 1, none⟩ = some (.slice A2 p.length c2) := Below.keeps hk.ext _ _ (by simp [go_sem, hgt, h1, f1, f2, hBl])
        have c1 : w1.cell? ⟨w.heap.size, 2, none⟩ = some (.int .u64 (v : Nat)) := Below.keeps hk.ext _ _ (by simp [go_sem, hgt, h1, f1, f2, hBl])
        simp [Region.wanted, Oper.wp, Act.eval, go_sem, d103, c0, c1, hgt, h1, f1, f2, hBl]
        exact hK _ _ (Below.refl _ _) rfl
        | 6, _ =>
        obtain rfl := Option.some.inj hoq
        intro a1 w1 K hk hK
        have d100 : a1.tmps.getD 100 undef = .slice AI l.length cI := hk.deps ⟨1, .data⟩ (by simp) rfl _ _ rfl rfl
        have d102 : a1.tmps.getD 102 undef = .slice A2 p.length c2 := hk.deps ⟨3, .data⟩ (by simp) rfl _ _ rfl rfl
        have d104 : a1.tmps.getD 104 undef = .int .u64 (v : Nat) := hk.deps ⟨5, .data⟩ (by simp) rfl _ _ rfl rfl
        simp [Region.wanted, Oper.wp, Act.eval, go_sem, d100, d102, d104, hgt, h1, f1, f2, hBl]
        refine (HRP.out _ (HN2.out.2.trans ((show Below w2.heap.size w2 _ from below_trans (by repeat (first | exact Below.refl _ _ | (refine Below.drew ?_) | (refine below_drewN' ?_ _) | (refine below_alloc' ?_ _) | (refine Below.setCell ?_ (by first | exact Nat.le_refl _ | (simp; done) | (simp; omega)) _))) hk.ext).mono HN2.out.2.size))).mono ?_
        rintro e w9 ⟨v9, rfl, h9, hb9⟩
        exact hK _ _ hb9 h9
        | 7, _ =>
        obtain rfl := Option.some.inj hoq
        intro a1 w1 K hk hK
        have e15 : a1.tmps.getD 15 undef = .int .i64 0 := hk.same 15 (by simp)
        simp [Region.wanted, Oper.wp, Act.eval, go_sem, e15, hgt, h1, f1, f2, hBl]
        exact hK _ _ (Below.refl _ _) rfl
        | 8, _ =>
        obtain rfl := Option.some.inj hoq
        intro a1 w1 K hk hK
        have d106 : a1.tmps.getD 106 undef = .int .i64 0 := hk.deps ⟨7, .data⟩ (by simp) rfl _ _ rfl rfl
        simp [Region.wanted, Oper.wp, Act.eval, go_sem, d106, hgt, h1, f1, f2, hBl]
        exact hK _ _ (Below.refl _ _) rfl
        | 9, _ =>
        obtain rfl := Option.some.inj hoq
        intro a1 w1 K hk hK
        have d107 : a1.tmps.getD 107 undef = .bool true := hk.deps ⟨8, .data⟩ (by simp) rfl _ _ rfl rfl
        simp [Region.wanted, Oper.wp, Act.eval, go_sem, d107, hgt, h1, f1, f2, hBl]
        exact hK _ _ (Below.refl _ _) rfl
        | 10, _ =>
        obtain rfl := Option.some.inj hoq
        intro a1 w1 K hk hK
        have e14 : a1.tmps.getD 14 undef = .pointer (some ⟨g, 0, none⟩) := hk.same 14 (by simp)
        have gd : a1.tmps[108]? = some (.bool true) := getD_bool (hk.deps ⟨9, .guard⟩ (by simp) rfl _ _ rfl rfl)
        simp [Region.wanted, Oper.wp, Act.eval, go_sem, e14, gd, yielded, hgt, h1, f1, f2, hBl]
        exact hK _ _ (Below.refl _ _) rfl
        | 11, _ =>
        obtain rfl := Option.some.inj hoq
        intro a1 w1 K hk hK
        have d109 : a1.tmps.getD 109 undef = .pointer (some ⟨g, 0, none⟩) := hk.deps ⟨10, .data⟩ (by simp) rfl _ _ rfl rfl
        have gd : a1.tmps[108]? = some (.bool true) := getD_bool (hk.deps ⟨9, .guard⟩ (by simp) rfl _ _ rfl rfl)
        simp [Region.wanted, Oper.wp, Act.eval, go_sem, d109, gd, yielded, hgt, h1, f1, f2, hBl]
        exact hK _ _ (Below.refl _ _) rfl
        | 12, _ =>
        obtain rfl := Option.some.inj hoq
        intro a1 w1 K hk hK
        have d108 : a1.tmps.getD 108 undef = .bool true := hk.deps ⟨9, .data⟩ (by simp) rfl _ _ rfl rfl
        have d110 : a1.tmps.getD 110 undef = .bool true := hk.deps ⟨11, .data⟩ (by simp) rfl _ _ rfl rfl
        simp [Region.wanted, Oper.wp, Act.eval, go_sem, d108, d110, hgt, h1, f1, f2, hBl]
        exact hK _ _ (Below.refl _ _) rfl
        | 13, _ =>
        obtain rfl := Option.some.inj hoq
        intro a1 w1 K hk hK
        have d111 : a1.tmps.getD 111 undef = .bool true := hk.deps ⟨12, .data⟩ (by simp) rfl _ _ rfl rfl
        simp [Region.wanted, Oper.wp, Act.eval, go_sem, d111, hgt, h1, f1, f2, hBl]
        exact hK _ _ (Below.refl _ _) rfl
        | 14, _ =>
        obtain rfl := Option.some.inj hoq
        intro a1 w1 K hk hK
        have e17 : a1.tmps.getD 17 undef = .bool false := hk.same 17 (by simp)
        have gd : a1.tmps[112]? = some (.bool true) := getD_bool (hk.deps ⟨13, .guard⟩ (by simp) rfl _ _ rfl rfl)
        simp [Region.wanted, Oper.wp, Act.eval, go_sem, e17, gd, yielded, hgt, h1, f1, f2, hBl]
        exact hK _ _ (Below.refl _ _) rfl
        | 15, _ =>
        obtain rfl := Option.some.inj hoq
        intro a1 w1 K hk hK
        have d113 : a1.tmps.getD 113 undef = .bool false := hk.deps ⟨14, .data⟩ (by simp) rfl _ _ rfl rfl
        have gd : a1.tmps[112]? = some (.bool true) := getD_bool (hk.deps ⟨13, .guard⟩ (by simp) rfl _ _ rfl rfl)
        simp [Region.wanted, Oper.wp, Act.eval, go_sem, d113, gd, yielded, hgt, h1, f1, f2, hBl]
        exact hK _ _ (Below.refl _ _) rfl
        | 16, _ =>
        obtain rfl := Option.some.inj hoq
        intro a1 w1 K hk hK
        have e16 : a1.tmps.getD 16 undef = .int .u64 0 := hk.same 16 (by simp)
        have gd : a1.tmps[114]? = some (.bool false) := getD_bool (hk.deps ⟨15, .guard⟩ (by simp) rfl _ _ rfl rfl)
        simp [Region.wanted, Oper.wp, Act.eval, go_sem, e16, gd, yielded, hgt, h1, f1, f2, hBl]
        exact hK _ _ (Below.refl _ _) rfl
        | 17, _ =>
        obtain rfl := Option.some.inj hoq
        intro a1 w1 K hk hK
        have e5 : a1.tmps.getD 5 undef = .pointer (some ⟨w.heap.size, 0, none⟩) := hk.same 5 (by simp)
        have gd : a1.tmps[114]? = some (.bool false) := getD_bool (hk.deps ⟨15, .guard⟩ (by simp) rfl _ _ rfl rfl)
        simp [Region.wanted, Oper.wp, Act.eval, go_sem, e5, gd, yielded, hgt, h1, f1, f2, hBl]
        exact hK _ _ (Below.refl _ _) rfl
        | 18, _ =>
        obtain rfl := Option.some.inj hoq
        intro a1 w1 K hk hK
        have d116 : a1.tmps.getD 116 undef = undef := hk.deps ⟨17, .data⟩ (by simp) rfl _ _ rfl rfl
        have gd : a1.tmps[114]? = some (.bool false) := getD_bool (hk.deps ⟨15, .guard⟩ (by simp) rfl _ _ rfl rfl)
        have c0 : w1.cell? ⟨w.heap.size, 1, none⟩ = some (.slice A2 p.length c2) := Below.keeps hk.ext _ _ (by simp [go_sem, hgt, h1, f1, f2, hBl])
        have c1 : w1.cell? ⟨w.heap.size, 2, none⟩ = some (.int .u64 (v : Nat)) := Below.keeps hk.ext _ _ (by simp [go_sem, hgt, h1, f1, f2, hBl])
        simp [Region.wanted, Oper.wp, Act.eval, go_sem, d116, gd, yielded, c0, c1, hgt, h1, f1, f2, hBl]
        exact hK _ _ (Below.refl _ _) rfl
        | 19, _ =>
        obtain rfl := Option.some.inj hoq
        intro a1 w1 K hk hK
        have d115 : a1.tmps.getD 115 undef = undef := hk.deps ⟨16, .data⟩ (by simp) rfl _ _ rfl rfl
        have d117 : a1.tmps.getD 117 undef = undef := hk.deps ⟨18, .data⟩ (by simp) rfl _ _ rfl rfl
        have gd : a1.tmps[114]? = some (.bool false) := getD_bool (hk.deps ⟨15, .guard⟩ (by simp) rfl _ _ rfl rfl)
        simp [Region.wanted, Oper.wp, Act.eval, go_sem, d115, d117, gd, yielded, hgt, h1, f1, f2, hBl]
        exact hK _ _ (Below.refl _ _) rfl
        | 20, _ =>
        obtain rfl := Option.some.inj hoq
        intro a1 w1 K hk hK
        have d114 : a1.tmps.getD 114 undef = .bool false := hk.deps ⟨15, .data⟩ (by simp) rfl _ _ rfl rfl
        have d118 : a1.tmps.getD 118 undef = undef := hk.deps ⟨19, .data⟩ (by simp) rfl _ _ rfl rfl
        have gd : a1.tmps[112]? = some (.bool true) := getD_bool (hk.deps ⟨13, .guard⟩ (by simp) rfl _ _ rfl rfl)
        simp [Region.wanted, Oper.wp, Act.eval, go_sem, d114, d118, gd, yielded, hgt, h1, f1, f2, hBl]
        exact hK _ _ (Below.refl _ _) rfl
        | 21, _ =>
        obtain rfl := Option.some.inj hoq
        intro a1 w1 K hk hK
        have e14 : a1.tmps.getD 14 undef = .pointer (some ⟨g, 0, none⟩) := hk.same 14 (by simp)
        have gd : a1.tmps[112]? = some (.bool true) := getD_bool (hk.deps ⟨13, .guard⟩ (by simp) rfl _ _ rfl rfl)
        simp [Region.wanted, Oper.wp, Act.eval, go_sem, e14, gd, yielded, hgt, h1, f1, f2, hBl]
        exact hK _ _ (Below.refl _ _) rfl
        | 22, _ =>
        obtain rfl := Option.some.inj hoq
        intro a1 w1 K hk hK
        have e0 : a1.tmps.getD 0 undef = .pointer (some ⟨t, 0, none⟩) := hk.same 0 (by simp)
        have gd : a1.tmps[112]? = some (.bool true) := getD_bool (hk.deps ⟨13, .guard⟩ (by simp) rfl _ _ rfl rfl)
        simp [Region.wanted, Oper.wp, Act.eval, go_sem, e0, gd, yielded, hgt, h1, f1, f2, hBl]
        exact hK _ _ (Below.refl _ _) rfl
        | 23, _ =>
        obtain rfl := Option.some.inj hoq
        intro a1 w1 K hk hK
        have d120 : a1.tmps.getD 120 undef = .pointer (some ⟨g, 0, none⟩) := hk.deps ⟨21, .data⟩ (by simp) rfl _ _ rfl rfl
        have d121 : a1.tmps.getD 121 undef = .pointer (some ⟨t, 0, none⟩) := hk.deps ⟨22, .data⟩ (by simp) rfl _ _ rfl rfl
        have gd : a1.tmps[112]? = some (.bool true) := getD_bool (hk.deps ⟨13, .guard⟩ (by simp) rfl _ _ rfl rfl)
        simp [Region.wanted, Oper.wp, Act.eval, go_sem, d120, d121, gd, yielded, hgt, h1, f1, f2, hBl]
        rw [HEQ.out w1 (below_trans (by repeat (first | exact Below.refl _ _ | (refine Below.drew ?_) | (refine below_drewN' ?_ _) | (refine below_alloc' ?_ _) | (refine Below.setCell ?_ (by first | exact Nat.le_refl _ | (simp; done) | (simp; omega)) _))) hk.ext)]
        exact hK _ _ (Below.refl _ _) rfl
        | 24, _ =>
        obtain rfl := Option.some.inj hoq
        intro a1 w1 K hk hK
        have d119 : a1.tmps.getD 119 undef = .bool false := hk.deps ⟨20, .data⟩ (by simp) rfl _ _ rfl rfl
        have d122 : a1.tmps.getD 122 undef = .bool false := hk.deps ⟨23, .data⟩ (by simp) rfl _ _ rfl rfl
        have gd : a1.tmps[112]? = some (.bool true) := getD_bool (hk.deps ⟨13, .guard⟩ (by simp) rfl _ _ rfl rfl)
        simp [Region.wanted, Oper.wp, Act.eval, go_sem, d119, d122, gd, yielded, hgt, h1, f1, f2, hBl]
        exact hK _ _ (Below.refl _ _) rfl
        | 25, _ =>
        obtain rfl := Option.some.inj hoq
        intro a1 w1 K hk hK
        have d112 : a1.tmps.getD 112 undef = .bool true := hk.deps ⟨13, .data⟩ (by simp) rfl _ _ rfl rfl
        have d123 : a1.tmps.getD 123 undef = .bool true := hk.deps ⟨24, .data⟩ (by simp) rfl _ _ rfl rfl
        simp [Region.wanted, Oper.wp, Act.eval, go_sem, d112, d123, hgt, h1, f1, f2, hBl]
        exact hK _ _ (Below.refl _ _) rfl
        | 26, _ =>
        obtain rfl := Option.some.inj hoq
        intro a1 w1 K hk hK
        have d99 : a1.tmps.getD 99 undef = .pointer (some ⟨g, 0, none⟩) := hk.deps ⟨0, .data⟩ (by simp) rfl _ _ rfl rfl
        simp [Region.wanted, Oper.wp, Act.eval, go_sem, d99, hgt, h1, f1, f2, hBl]
        exact hK _ _ (Below.refl _ _) rfl
        | 27, _ =>
        obtain rfl := Option.some.inj hoq
        intro a1 w1 K hk hK
        have D105 : RdE w1 (a1.tmps.getD 105 undef) (insE p v l) := hk.deps ⟨6, .data⟩ (by simp) rfl _ _ rfl rfl
        simp [Region.wanted, Oper.wp, Act.eval, go_sem, hgt, h1, f1, f2, hBl]
        exact hK _ _ (Below.refl _ _) (by simpa [nthV] using D105)
        | k + 28, hk => exact absurd hk (by omega)
      · intro vs w3 hl hb3 hv
        match vs, hl with
        | v0 :: v1 :: v2 :: v3 :: v4 :: v5 :: v6 :: v7 :: v8 :: v9 :: v10 :: v11 :: v12 :: v13 :: v14 :: v15 :: v16 :: v17 :: v18 :: v19 :: v20 :: v21 :: v22 :: v23 :: v24 :: v25 :: v26 :: v27 :: [], _ =>
        obtain rfl : v0 = .pointer (some ⟨g, 0, none⟩) := hv 0 (by omega)
        obtain rfl : v1 = .slice AI l.length cI := hv 1 (by omega)
        obtain rfl : v2 = .pointer (some ⟨w.heap.size, 1, none⟩) := hv 2 (by omega)
        obtain rfl : v3 = .slice A2 p.length c2 := hv 3 (by omega)
        obtain rfl : v4 = .pointer (some ⟨w.heap.size, 2, none⟩) := hv 4 (by omega)
        obtain rfl : v5 = .int .u64 (v : Nat) := hv 5 (by omega)
        have q6 : RdE w3 v6 (insE p v l) := hv 6 (by omega)
        obtain rfl : v7 = .int .i64 0 := hv 7 (by omega)
        obtain rfl : v8 = .bool true := hv 8 (by omega)
        obtain rfl : v9 = .bool true := hv 9 (by omega)
        obtain rfl : v10 = .pointer (some ⟨g, 0, none⟩) := hv 10 (by omega)
        obtain rfl : v11 = .bool true := hv 11 (by omega)
        obtain rfl : v12 = .bool true := hv 12 (by omega)
        obtain rfl : v13 = .bool true := hv 13 (by omega)
        obtain rfl : v14 = .bool false := hv 14 (by omega)
        obtain rfl : v15 = .bool false := hv 15 (by omega)
        obtain rfl : v16 = undef := hv 16 (by omega)
        obtain rfl : v17 = undef := hv 17 (by omega)
        obtain rfl : v18 = undef := hv 18 (by omega)
        obtain rfl : v19 = undef := hv 19 (by omega)
        obtain rfl : v20 = .bool false := hv 20 (by omega)
        obtain rfl : v21 = .pointer (some ⟨g, 0, none⟩) := hv 21 (by omega)
        obtain rfl : v22 = .pointer (some ⟨t, 0, none⟩) := hv 22 (by omega)
        obtain rfl : v23 = .bool false := hv 23 (by omega)
        obtain rfl : v24 = .bool true := hv 24 (by omega)
        obtain rfl : v25 = .bool true := hv 25 (by omega)
        obtain rfl : v26 = .pointer (some ⟨g, 0, none⟩) := hv 26 (by omega)
        have q27 : RdE w3 v27 (insE p v l) := hv 27 (by omega)
        clear hv
        simp only [putAll, List.take_succ_cons, List.take_zero, List.drop_succ_cons, List.drop_zero, Act.put, List.setIfInBounds_toArray, List.set_cons_succ, List.set_cons_zero]
        have hb4 : Below w2.heap.size w2 w3 := below_trans (by repeat (first | exact Below.refl _ _ | (refine Below.drew ?_) | (refine below_drewN' ?_ _) | (refine below_alloc' ?_ _) | (refine Below.setCell ?_ (by first | exact Nat.le_refl _ | (simp; done) | (simp; omega)) _))) hb3
        have HF := Lib.hid (And.intro (HN2.out.1.bel hb4) (And.intro q27 (HN2.out.2.trans (hb4.mono HN2.out.2.size))))
        clear q6 q27 hb3 hb4
        go_wp2_with fail
        ((try simp only [Exit.inBlock, Exit.then]); refine bodyPost_ret (results_tmp3 rfl _ _ _) rfl ?_)
        rw [HST.out]
        exact ⟨g, _, rfl, HF.out⟩
    | some x =>
      by_cases hx : x = v
      · subst hx
        obtain rfl : g = t := HG.out.1 hget
        have HGT := Lib.hid hget
        have hgt : True := trivial
        have HEQ := Lib.hid (fun w3 (hb : Below w2.heap.size w2 w3) => tree_same w3 g)
        have h1 : True := trivial
        clear hget
        go_wp2_with fail
        refine wp_region_vals 28 [fun z9 _ => z9 = .pointer (some ⟨g, 0, none⟩),
          fun z9 _ => z9 = .slice AI l.length cI,
          fun z9 _ => z9 = .pointer (some ⟨w.heap.size, 1, none⟩),
          fun z9 _ => z9 = .slice A2 p.length c2,
          fun z9 _ => z9 = .pointer (some ⟨w.heap.size, 2, none⟩),
          fun z9 _ => z9 = .int .u64 (x : Nat),
          fun v9 w9 => RdE w9 v9 (insE p x l),
          fun z9 _ => z9 = .int .i64 0,
          fun z9 _ => z9 = .bool true,
          fun z9 _ => z9 = .bool true,
          fun z9 _ => z9 = .pointer (some ⟨g, 0, none⟩),
          fun z9 _ => z9 = .bool true,
          fun z9 _ => z9 = .bool true,
          fun z9 _ => z9 = .bool true,
          fun z9 _ => z9 = .bool true,
          fun z9 _ => z9 = .bool true,
          fun z9 _ => z9 = .int .u64 (x : Nat),
          fun z9 _ => z9 = .pointer (some ⟨w.heap.size, 2, none⟩),
          fun z9 _ => z9 = .int .u64 (x : Nat),
          fun z9 _ => z9 = .bool true,
          fun z9 _ => z9 = .bool true,
          fun z9 _ => z9 = .pointer (some ⟨g, 0, none⟩),
          fun z9 _ => z9 = .pointer (some ⟨g, 0, none⟩),
          fun z9 _ => z9 = .bool true,
          fun z9 _ => z9 = .bool true,
          fun z9 _ => z9 = .bool true,
          fun z9 _ => z9 = .pointer (some ⟨g, 0, none⟩),
          fun v9 w9 => RdE w9 v9 (insE p x l)]
          (by kernel_rfl) (by kernel_rfl) (by kernel_rfl) (by kernel_rfl) ?_ ?_ ?_
        · intro V hV v w1 w2 h hb
          simp only [List.mem_cons, List.not_mem_nil, or_false] at hV
          rcases hV with rfl | rfl | rfl | rfl | rfl | rfl | rfl | rfl | rfl | rfl | rfl | rfl | rfl | rfl | rfl | rfl | rfl | rfl | rfl | rfl | rfl | rfl | rfl | rfl | rfl | rfl | rfl | rfl
          all_goals first | exact h | (exact RdE.below h hb)
        · intro iq oq hiq hoq
          match iq, hiq with
          | 0, _ =>
          obtain rfl := Option.some.inj hoq
          intro a1 w1 K hk hK
          have e14 : a1.tmps.getD 14 undef = .pointer (some ⟨g, 0, none⟩) := hk.same 14 (by simp)
          simp [Region.wanted, Oper.wp, Act.eval, go_sem, e14, hgt, h1, f1, f2, hBl]
          exact hK _ _ (Below.refl _ _) rfl
          | 1, _ =>
          obtain rfl := Option.some.inj hoq
          intro a1 w1 K hk hK
          have e1 : a1.tmps.getD 1 undef = .slice AI l.length cI := hk.same 1 (by simp)
          simp [Region.wanted, Oper.wp, Act.eval, go_sem, e1, hgt, h1, f1, f2, hBl]
          exact hK _ _ (Below.refl _ _) rfl
          | 2, _ =>
          obtain rfl := Option.some.inj hoq
          intro a1 w1 K hk hK
          have e5 : a1.tmps.getD 5 undef = .pointer (some ⟨w.heap.size, 0, none⟩) := hk.same 5 (by simp)
          simp [Region.wanted, Oper.wp, Act.eval, go_sem, e5, hgt, h1, f1, f2, hBl]
          exact hK _ _ (Below.refl _ _) rfl
          | 3, _ =>
          obtain rfl := Option.some.inj hoq
          intro a1 w1 K hk hK
          have d101 : a1.tmps.getD 101 undef = .pointer (some ⟨w.heap.size, 1, none⟩) := hk.deps ⟨2, .data⟩ (by simp) rfl _ _ rfl rfl
          have c0 : w1.cell? ⟨w.heap.size, 1, none⟩ = some (.slice A2 p.length c2) := Below.keeps hk.ext _ _ (by simp [go_sem, hgt, h1, f1, f2, hBl])
          have c1 : w1.cell? ⟨w.heap.size, 2, none⟩ = some (.int .u64 (x : Nat)) := Below.keeps hk.ext _ _ (by simp [go_sem, hgt, h1, f1, f2, hBl])
          simp [Region.wanted, Oper.wp, Act.eval, go_sem, d101, c0, c1, hgt, h1, f1, f2, hBl]
          exact hK _ _ (Below.refl _ _) rfl
          | 4, _ =>
          obtain rfl := Option.some.inj hoq
          intro a1 w1 K hk hK
          have e5 : a1.tmps.getD 5 undef = .pointer (some ⟨w.heap.size, 0, none⟩) := hk.same 5 (by simp)
          simp [Region.wanted, Oper.wp, Act.eval, go_sem, e5, hgt, h1, f1, f2, hBl]
          exact hK _ _ (Below.refl _ _) rfl
          | 5, _ =>
          obtain rfl := Option.some.inj hoq
          intro a1 w1 K hk hK
          have d103 : a1.tmps.getD 103 undef = .pointer (some ⟨w.heap.size, 2, none⟩) := hk.deps ⟨4, .data⟩ (by simp) rfl _ _ rfl rfl
          have c0 : w1.cell? ⟨w.heap.size, 1, none⟩ = some (.slice A2 p.length c2) := Below.keeps hk.ext _ _ (by simp [go_sem, hgt, h1, f1, f2, hBl])
          have c1 : w1.cell? ⟨w.heap.size, 2, none⟩ = some (.int .u64 (x : Nat)) := Below.keeps hk.ext _ _ (by simp [go_sem, hgt, h1, f1, f2, hBl])
          simp [Region.wanted, Oper.wp, Act.eval, go_sem, d103, c0, c1, hgt, h1, f1, f2, hBl]
          exact hK _ _ (Below.refl _ _) rfl
          | 6, _ =>
          obtain rfl := Option.some.inj hoq
          intro a1 w1 K hk hK
          have d100 : a1.tmps.getD 100 undef = .slice AI l.length cI := hk.deps ⟨1, .data⟩ (by simp) rfl _ _ rfl rfl
          have d102 : a1.tmps.getD 102 undef = .slice A2 p.length c2 := hk.deps ⟨3, .data⟩ (by simp) rfl _ _ rfl rfl
          have d104 : a1.tmps.getD 104 undef = .int .u64 (x : Nat) := hk.deps ⟨5, .data⟩ (by simp) rfl _ _ rfl rfl
          simp [Region.wanted, Oper.wp, Act.eval, go_sem, d100, d102, d104, hgt, h1, f1, f2, hBl]
          refine (HRP.out _ (HN2.out.2.trans ((show Below w2.heap.size w2 _ from below_trans (by repeat (first | exact Below.refl _ _ | (refine Below.drew ?_) | (refine below_drewN' ?_ _) | (refine below_alloc' ?_ _) | (refine Below.setCell ?_ (by first | exact Nat.le_refl _ | (simp; done) | (simp; omega)) _))) hk.ext).mono HN2.out.2.size))).mono ?_
          rintro e w9 ⟨v9, rfl, h9, hb9⟩
          exact hK _ _ hb9 h9
          | 7, _ =>
          obtain rfl := Option.some.inj hoq
          intro a1 w1 K hk hK
          have e15 : a1.tmps.getD 15 undef = .int .i64 0 := hk.same 15 (by simp)
          simp [Region.wanted, Oper.wp, Act.eval, go_sem, e15, hgt, h1, f1, f2, hBl]
          exact hK _ _ (Below.refl _ _) rfl
          | 8, _ =>
          obtain rfl := Option.some.inj hoq
          intro a1 w1 K hk hK
          have d106 : a1.tmps.getD 106 undef = .int .i64 0 := hk.deps ⟨7, .data⟩ (by simp) rfl _ _ rfl rfl
          simp [Region.wanted, Oper.wp, Act.eval, go_sem, d106, hgt, h1, f1, f2, hBl]
          exact hK _ _ (Below.refl _ _) rfl
          | 9, _ =>
          obtain rfl := Option.some.inj hoq
          intro a1 w1 K hk hK
          have d107 : a1.tmps.getD 107 undef = .bool true := hk.deps ⟨8, .data⟩ (by simp) rfl _ _ rfl rfl
          simp [Region.wanted, Oper.wp, Act.eval, go_sem, d107, hgt, h1, f1, f2, hBl]
          exact hK _ _ (Below.refl _ _) rfl
          | 10, _ =>
          obtain rfl := Option.some.inj hoq
          intro a1 w1 K hk hK
          have e14 : a1.tmps.getD 14 undef = .pointer (some ⟨g, 0, none⟩) := hk.same 14 (by simp)
          have gd : a1.tmps[108]? = some (.bool true) := getD_bool (hk.deps ⟨9, .guard⟩ (by simp) rfl _ _ rfl rfl)
          simp [Region.wanted, Oper.wp, Act.eval, go_sem, e14, gd, yielded, hgt, h1, f1, f2, hBl]
          exact hK _ _ (Below.refl _ _) rfl
          | 11, _ =>
          obtain rfl := Option.some.inj hoq
          intro a1 w1 K hk hK
          have d109 : a1.tmps.getD 109 undef = .pointer (some ⟨g, 0, none⟩) := hk.deps ⟨10, .data⟩ (by simp) rfl _ _ rfl rfl
          have gd : a1.tmps[108]? = some (.bool true) := getD_bool (hk.deps ⟨9, .guard⟩ (by simp) rfl _ _ rfl rfl)
          simp [Region.wanted, Oper.wp, Act.eval, go_sem, d109, gd, yielded, hgt, h1, f1, f2, hBl]
          exact hK _ _ (Below.refl _ _) rfl
          | 12, _ =>
          obtain rfl := Option.some.inj hoq
          intro a1 w1 K hk hK
          have d108 : a1.tmps.getD 108 undef = .bool true := hk.deps ⟨9, .data⟩ (by simp) rfl _ _ rfl rfl
          have d110 : a1.tmps.getD 110 undef = .bool true := hk.deps ⟨11, .data⟩ (by simp) rfl _ _ rfl rfl
          simp [Region.wanted, Oper.wp, Act.eval, go_sem, d108, d110, hgt, h1, f1, f2, hBl]
          exact hK _ _ (Below.refl _ _) rfl
          | 13, _ =>
          obtain rfl := Option.some.inj hoq
          intro a1 w1 K hk hK
          have d111 : a1.tmps.getD 111 undef = .bool true := hk.deps ⟨12, .data⟩ (by simp) rfl _ _ rfl rfl
          simp [Region.wanted, Oper.wp, Act.eval, go_sem, d111, hgt, h1, f1, f2, hBl]
          exact hK _ _ (Below.refl _ _) rfl
          | 14, _ =>
          obtain rfl := Option.some.inj hoq
          intro a1 w1 K hk hK
          have e17 : a1.tmps.getD 17 undef = .bool true := hk.same 17 (by simp)
          have gd : a1.tmps[112]? = some (.bool true) := getD_bool (hk.deps ⟨13, .guard⟩ (by simp) rfl _ _ rfl rfl)
          simp [Region.wanted, Oper.wp, Act.eval, go_sem, e17, gd, yielded, hgt, h1, f1, f2, hBl]
          exact hK _ _ (Below.refl _ _) rfl
          | 15, _ =>
          obtain rfl := Option.some.inj hoq
          intro a1 w1 K hk hK
          have d113 : a1.tmps.getD 113 undef = .bool true := hk.deps ⟨14, .data⟩ (by simp) rfl _ _ rfl rfl
          have gd : a1.tmps[112]? = some (.bool true) := getD_bool (hk.deps ⟨13, .guard⟩ (by simp) rfl _ _ rfl rfl)
          simp [Region.wanted, Oper.wp, Act.eval, go_sem, d113, gd, yielded, hgt, h1, f1, f2, hBl]
          exact hK _ _ (Below.refl _ _) rfl
          | 16, _ =>
          obtain rfl := Option.some.inj hoq
          intro a1 w1 K hk hK
          have e16 : a1.tmps.getD 16 undef = .int .u64 (x : Nat) := hk.same 16 (by simp)
          have gd : a1.tmps[114]? = some (.bool true) := getD_bool (hk.deps ⟨15, .guard⟩ (by simp) rfl _ _ rfl rfl)
          simp [Region.wanted, Oper.wp, Act.eval, go_sem, e16, gd, yielded, hgt, h1, f1, f2, hBl]
          exact hK _ _ (Below.refl _ _) rfl
          | 17, _ =>
          obtain rfl := Option.some.inj hoq
          intro a1 w1 K hk hK
          have e5 : a1.tmps.getD 5 undef = .pointer (some ⟨w.heap.size, 0, none⟩) := hk.same 5 (by simp)
          have gd : a1.tmps[114]? = some (.bool true) := getD_bool (hk.deps ⟨15, .guard⟩ (by simp) rfl _ _ rfl rfl)
          simp [Region.wanted, Oper.wp, Act.eval, go_sem, e5, gd, yielded, hgt, h1, f1, f2, hBl]
          exact hK _ _ (Below.refl _ _) rfl
          | 18, _ =>
          obtain rfl := Option.some.inj hoq
          intro a1 w1 K hk hK
          have d116 : a1.tmps.getD 116 undef = .pointer (some ⟨w.heap.size, 2, none⟩) := hk.deps ⟨17, .data⟩ (by simp) rfl _ _ rfl rfl
          have gd : a1.tmps[114]? = some (.bool true) := getD_bool (hk.deps ⟨15, .guard⟩ (by simp) rfl _ _ rfl rfl)
          have c0 : w1.cell? ⟨w.heap.size, 1, none⟩ = some (.slice A2 p.length c2) := Below.keeps hk.ext _ _ (by simp [go_sem, hgt, h1, f1, f2, hBl])
          have c1 : w1.cell? ⟨w.heap.size, 2, none⟩ = some (.int .u64 (x : Nat)) := Below.keeps hk.ext _ _ (by simp [go_sem, hgt, h1, f1, f2, hBl])
          simp [Region.wanted, Oper.wp, Act.eval, go_sem, d116, gd, yielded, c0, c1, hgt, h1, f1, f2, hBl]
          exact hK _ _ (Below.refl _ _) rfl
          | 19, _ =>
          obtain rfl := Option.some.inj hoq
          intro a1 w1 K hk hK
          have d115 : a1.tmps.getD 115 undef = .int .u64 (x : Nat) := hk.deps ⟨16, .data⟩ (by simp) rfl _ _ rfl rfl
          have d117 : a1.tmps.getD 117 undef = .int .u64 (x : Nat) := hk.deps ⟨18, .data⟩ (by simp) rfl _ _ rfl rfl
          have gd : a1.tmps[114]? = some (.bool true) := getD_bool (hk.deps ⟨15, .guard⟩ (by simp) rfl _ _ rfl rfl)
          simp [Region.wanted, Oper.wp, Act.eval, go_sem, d115, d117, gd, yielded, hgt, h1, f1, f2, hBl]
          exact hK _ _ (Below.refl _ _) rfl
          | 20, _ =>
          obtain rfl := Option.some.inj hoq
          intro a1 w1 K hk hK
          have d114 : a1.tmps.getD 114 undef = .bool true := hk.deps ⟨15, .data⟩ (by simp) rfl _ _ rfl rfl
          have d118 : a1.tmps.getD 118 undef = .bool true := hk.deps ⟨19, .data⟩ (by simp) rfl _ _ rfl rfl
          have gd : a1.tmps[112]? = some (.bool true) := getD_bool (hk.deps ⟨13, .guard⟩ (by simp) rfl _ _ rfl rfl)
          simp [Region.wanted, Oper.wp, Act.eval, go_sem, d114, d118, gd, yielded, hgt, h1, f1, f2, hBl]
          exact hK _ _ (Below.refl _ _) rfl
          | 21, _ =>
          obtain rfl := Option.some.inj hoq
          intro a1 w1 K hk hK
          have e14 : a1.tmps.getD 14 undef = .pointer (some ⟨g, 0, none⟩) := hk.same 14 (by simp)
          have gd : a1.tmps[112]? = some (.bool true) := getD_bool (hk.deps ⟨13, .guard⟩ (by simp) rfl _ _ rfl rfl)
          simp [Region.wanted, Oper.wp, Act.eval, go_sem, e14, gd, yielded, hgt, h1, f1, f2, hBl]
          exact hK _ _ (Below.refl _ _) rfl
          | 22, _ =>
          obtain rfl := Option.some.inj hoq
          intro a1 w1 K hk hK
          have e0 : a1.tmps.getD 0 undef = .pointer (some ⟨g, 0, none⟩) := hk.same 0 (by simp)
          have gd : a1.tmps[112]? = some (.bool true) := getD_bool (hk.deps ⟨13, .guard⟩ (by simp) rfl _ _ rfl rfl)
          simp [Region.wanted, Oper.wp, Act.eval, go_sem, e0, gd, yielded, hgt, h1, f1, f2, hBl]
          exact hK _ _ (Below.refl _ _) rfl
          | 23, _ =>
          obtain rfl := Option.some.inj hoq
          intro a1 w1 K hk hK
          have d120 : a1.tmps.getD 120 undef = .pointer (some ⟨g, 0, none⟩) := hk.deps ⟨21, .data⟩ (by simp) rfl _ _ rfl rfl
          have d121 : a1.tmps.getD 121 undef = .pointer (some ⟨g, 0, none⟩) := hk.deps ⟨22, .data⟩ (by simp) rfl _ _ rfl rfl
          have gd : a1.tmps[112]? = some (.bool true) := getD_bool (hk.deps ⟨13, .guard⟩ (by simp) rfl _ _ rfl rfl)
          simp [Region.wanted, Oper.wp, Act.eval, go_sem, d120, d121, gd, yielded, hgt, h1, f1, f2, hBl]
          rw [HEQ.out w1 (below_trans (by repeat (first | exact Below.refl _ _ | (refine Below.drew ?_) | (refine below_drewN' ?_ _) | (refine below_alloc' ?_ _) | (refine Below.setCell ?_ (by first | exact Nat.le_refl _ | (simp; done) | (simp; omega)) _))) hk.ext)]
          exact hK _ _ (Below.refl _ _) rfl
          | 24, _ =>
          obtain rfl := Option.some.inj hoq
          intro a1 w1 K hk hK
          have d119 : a1.tmps.getD 119 undef = .bool true := hk.deps ⟨20, .data⟩ (by simp) rfl _ _ rfl rfl
          have d122 : a1.tmps.getD 122 undef = .bool true := hk.deps ⟨23, .data⟩ (by simp) rfl _ _ rfl rfl
          have gd : a1.tmps[112]? = some (.bool true) := getD_bool (hk.deps ⟨13, .guard⟩ (by simp) rfl _ _ rfl rfl)
          simp [Region.wanted, Oper.wp, Act.eval, go_sem, d119, d122, gd, yielded, hgt, h1, f1, f2, hBl]
          exact hK _ _ (Below.refl _ _) rfl
          | 25, _ =>
          obtain rfl := Option.some.inj hoq
          intro a1 w1 K hk hK
          have d112 : a1.tmps.getD 112 undef = .bool true := hk.deps ⟨13, .data⟩ (by simp) rfl _ _ rfl rfl
          have d123 : a1.tmps.getD 123 undef = .bool true := hk.deps ⟨24, .data⟩ (by simp) rfl _ _ rfl rfl
          simp [Region.wanted, Oper.wp, Act.eval, go_sem, d112, d123, hgt, h1, f1, f2, hBl]
          exact hK _ _ (Below.refl _ _) rfl
          | 26, _ =>
          obtain rfl := Option.some.inj hoq
          intro a1 w1 K hk hK
          have d99 : a1.tmps.getD 99 undef = .pointer (some ⟨g, 0, none⟩) := hk.deps ⟨0, .data⟩ (by simp) rfl _ _ rfl rfl
          simp [Region.wanted, Oper.wp, Act.eval, go_sem, d99, hgt, h1, f1, f2, hBl]
          exact hK _ _ (Below.refl _ _) rfl
          | 27, _ =>
          obtain rfl := Option.some.inj hoq
          intro a1 w1 K hk hK
          have D105 : RdE w1 (a1.tmps.getD 105 undef) (insE p x l) := hk.deps ⟨6, .data⟩ (by simp) rfl _ _ rfl rfl
          simp [Region.wanted, Oper.wp, Act.eval, go_sem, hgt, h1, f1, f2, hBl]
          exact hK _ _ (Below.refl _ _) (by simpa [nthV] using D105)
          | k + 28, hk => exact absurd hk (by omega)
        · intro vs w3 hl hb3 hv
          match vs, hl with
          | v0 :: v1 :: v2 :: v3 :: v4 :: v5 :: v6 :: v7 :: v8 :: v9 :: v10 :: v11 :: v12 :: v13 :: v14 :: v15 :: v16 :: v17 :: v18 :: v19 :: v20 :: v21 :: v22 :: v23 :: v24 :: v25 :: v26 :: v27 :: [], _ =>
          obtain rfl : v0 = .pointer (some ⟨g, 0, none⟩) := hv 0 (by omega)
          obtain rfl : v1 = .slice AI l.length cI := hv 1 (by omega)
          obtain rfl : v2 = .pointer (some ⟨w.heap.size, 1, none⟩) := hv 2 (by omega)
          obtain rfl : v3 = .slice A2 p.length c2 := hv 3 (by omega)
          obtain rfl : v4 = .pointer (some ⟨w.heap.size, 2, none⟩) := hv 4 (by omega)
          obtain rfl : v5 = .int .u64 (x : Nat) := hv 5 (by omega)
          have q6 : RdE w3 v6 (insE p x l) := hv 6 (by omega)
          obtain rfl : v7 = .int .i64 0 := hv 7 (by omega)
          obtain rfl : v8 = .bool true := hv 8 (by omega)
          obtain rfl : v9 = .bool true := hv 9 (by omega)
          obtain rfl : v10 = .pointer (some ⟨g, 0, none⟩) := hv 10 (by omega)
          obtain rfl : v11 = .bool true := hv 11 (by omega)
          obtain rfl : v12 = .bool true := hv 12 (by omega)
          obtain rfl : v13 = .bool true := hv 13 (by omega)
          obtain rfl : v14 = .bool true := hv 14 (by omega)
          obtain rfl : v15 = .bool true := hv 15 (by omega)
          obtain rfl : v16 = .int .u64 (x : Nat) := hv 16 (by omega)
          obtain rfl : v17 = .pointer (some ⟨w.heap.size, 2, none⟩) := hv 17 (by omega)
          obtain rfl : v18 = .int .u64 (x : Nat) := hv 18 (by omega)
          obtain rfl : v19 = .bool true := hv 19 (by omega)
          obtain rfl : v20 = .bool true := hv 20 (by omega)
          obtain rfl : v21 = .pointer (some ⟨g, 0, none⟩) := hv 21 (by omega)
          obtain rfl : v22 = .pointer (some ⟨g, 0, none⟩) := hv 22 (by omega)
          obtain rfl : v23 = .bool true := hv 23 (by omega)
          obtain rfl : v24 = .bool true := hv 24 (by omega)
          obtain rfl : v25 = .bool true := hv 25 (by omega)
          obtain rfl : v26 = .pointer (some ⟨g, 0, none⟩) := hv 26 (by omega)
          have q27 : RdE w3 v27 (insE p x l) := hv 27 (by omega)
          clear hv
          simp only [putAll, List.take_succ_cons, List.take_zero, List.drop_succ_cons, List.drop_zero, Act.put, List.setIfInBounds_toArray, List.set_cons_succ, List.set_cons_zero]
          have hb4 : Below w2.heap.size w2 w3 := below_trans (by repeat (first | exact Below.refl _ _ | (refine Below.drew ?_) | (refine below_drewN' ?_ _) | (refine below_alloc' ?_ _) | (refine Below.setCell ?_ (by first | exact Nat.le_refl _ | (simp; done) | (simp; omega)) _))) hb3
          have HF := Lib.hid (And.intro (HN2.out.1.bel hb4) (And.intro q27 (HN2.out.2.trans (hb4.mono HN2.out.2.size))))
          clear q6 q27 hb3 hb4
          go_wp2_with fail
          ((try simp only [Exit.inBlock, Exit.then]); refine bodyPost_ret (results_tmp3 rfl _ _ _) rfl ?_)
          rw [HST.out]
          exact ⟨g, _, rfl, HF.out⟩
      · have hgt : ¬ g = t := by have := HG.out.2 (by rw [hget]; simpa using hx); omega
        have h1 : ((x : Int) == (v : Int)) = false := by simp; omega
        have HEQ := Lib.hid (fun w3 (hb : Below w2.heap.size w2 w3) => tree_other (HN2.out.1.bel hb) ((HT.out.1.bel HN2.out.2).bel hb) hgt)
        have HGT := Lib.hid hget
        clear hget
        go_wp2_with fail
        refine wp_region_vals 28 [fun z9 _ => z9 = .pointer (some ⟨g, 0, none⟩),
          fun z9 _ => z9 = .slice AI l.length cI,
          fun z9 _ => z9 = .pointer (some ⟨w.heap.size, 1, none⟩),
          fun z9 _ => z9 = .slice A2 p.length c2,
          fun z9 _ => z9 = .pointer (some ⟨w.heap.size, 2, none⟩),
          fun z9 _ => z9 = .int .u64 (v : Nat),
          fun v9 w9 => RdE w9 v9 (insE p v l),
          fun z9 _ => z9 = .int .i64 0,
          fun z9 _ => z9 = .bool true,
          fun z9 _ => z9 = .bool true,
          fun z9 _ => z9 = .pointer (some ⟨g, 0, none⟩),
          fun z9 _ => z9 = .bool true,
          fun z9 _ => z9 = .bool true,
          fun z9 _ => z9 = .bool true,
          fun z9 _ => z9 = .bool true,
          fun z9 _ => z9 = .bool true,
          fun z9 _ => z9 = .int .u64 (x : Nat),
          fun z9 _ => z9 = .pointer (some ⟨w.heap.size, 2, none⟩),
          fun z9 _ => z9 = .int .u64 (v : Nat),
          fun z9 _ => z9 = .bool false,
          fun z9 _ => z9 = .bool false,
          fun z9 _ => z9 = .pointer (some ⟨g, 0, none⟩),
          fun z9 _ => z9 = .pointer (some ⟨t, 0, none⟩),
          fun z9 _ => z9 = .bool false,
          fun z9 _ => z9 = .bool true,
          fun z9 _ => z9 = .bool true,
          fun z9 _ => z9 = .pointer (some ⟨g, 0, none⟩),
          fun v9 w9 => RdE w9 v9 (insE p v l)]
          (by kernel_rfl) (by kernel_rfl) (by kernel_rfl) (by kernel_rfl) ?_ ?_ ?_
        · intro V hV v w1 w2 h hb
          simp only [List.mem_cons, List.not_mem_nil, or_false] at hV
          rcases hV with rfl | rfl | rfl | rfl | rfl | rfl | rfl | rfl | rfl | rfl | rfl | rfl | rfl | rfl | rfl | rfl | rfl | rfl | rfl | rfl | rfl | rfl | rfl | rfl | rfl | rfl | rfl | rfl
          all_goals first | exact h | (exact RdE.below h hb)
        · intro iq oq hiq hoq
          match iq, hiq with
          | 0, _ =>
          obtain rfl := Option.some.inj hoq
          intro a1 w1 K hk hK
          have e14 : a1.tmps.getD 14 undef = .pointer (some ⟨g, 0, none⟩) := hk.same 14 (by simp)
          simp [Region.wanted, Oper.wp, Act.eval, go_sem, e14, hgt, h1, f1, f2, hBl]
          exact hK _ _ (Below.refl _ _) rfl
          | 1, _ =>
          obtain rfl := Option.some.inj hoq
          intro a1 w1 K hk hK
          have e1 : a1.tmps.getD 1 undef = .slice AI l.length cI := hk.same 1 (by simp)
          simp [Region.wanted, Oper.wp, Act.eval, go_sem, e1, hgt, h1, f1, f2, hBl]
          exact hK _ _ (Below.refl _ _) rfl
          | 2, _ =>
          obtain rfl := Option.some.inj hoq
          intro a1 w1 K hk hK
          have e5 : a1.tmps.getD 5 undef = .pointer (some ⟨w.heap.size, 0, none⟩) := hk.same 5 (by simp)
          simp [Region.wanted, Oper.wp, Act.eval, go_sem, e5, hgt, h1, f1, f2, hBl]
          exact hK _ _ (Below.refl _ _) rfl
          | 3, _ =>
          obtain rfl := Option.some.inj hoq
          intro a1 w1 K hk hK
          have d101 : a1.tmps.getD 101 undef = .pointer (some ⟨w.heap.size, 1, none⟩) := hk.deps ⟨2, .data⟩ (by simp) rfl _ _ rfl rfl
          have c0 : w1.cell? ⟨w.heap.size, 1, none⟩ = some (.slice A2 p.length c2) := Below.keeps hk.ext _ _ (by simp [go_sem, hgt, h1, f1, f2, hBl])
          have c1 : w1.cell? ⟨w.heap.size, 2, none⟩ = some (.int .u64 (v : Nat)) := Below.keeps hk.ext _ _ (by simp [go_sem, hgt, h1, f1, f2, hBl])
          simp [Region.wanted, Oper.wp, Act.eval, go_sem, d101, c0, c1, hgt, h1, f1, f2, hBl]
          exact hK _ _ (Below.refl _ _) rfl
          | 4, _ =>
          obtain rfl := Option.some.inj hoq
          intro a1 w1 K hk hK
          have e5 : a1.tmps.getD 5 undef = .pointer (some ⟨w.heap.size, 0, none⟩) := hk.same 5 (by simp)
          simp [Region.wanted, Oper.wp, Act.eval, go_sem, e5, hgt, h1, f1, f2, hBl]
          exact hK _ _ (Below.refl _ _) rfl
          | 5, _ =>
          obtain rfl := Option.some.inj hoq
          intro a1 w1 K hk hK
          have d103 : a1.tmps.getD 103 undef = .pointer (some ⟨w.heap.size, 2, none⟩) := hk.deps ⟨4, .data⟩ (by simp) rfl _ _ rfl rfl
          have c0 : w1.cell? ⟨w.heap.size, 1, none⟩ = some (.slice A2 p.length c2) := Below.keeps hk.ext _ _ (by simp [go_sem, hgt, h1, f1, f2, hBl])
          have c1 : w1.cell? ⟨w.heap.size, 2, none⟩ = some (.int .u64 (v : Nat)) := Below.keeps hk.ext _ _ (by simp [go_sem, hgt, h1, f1, f2, hBl])
          simp [Region.wanted, Oper.wp, Act.eval, go_sem, d103, c0, c1, hgt, h1, f1, f2, hBl]
          exact hK _ _ (Below.refl _ _) rfl
          | 6, _ =>
          obtain rfl := Option.some.inj hoq
          intro a1 w1 K hk hK
          have d100 : a1.tmps.getD 100 undef = .slice AI l.length cI := hk.deps ⟨1, .data⟩ (by simp) rfl _ _ rfl rfl
          have d102 : a1.tmps.getD 102 undef = .slice A2 p.length c2 := hk.deps ⟨3, .data⟩ (by simp) rfl _ _ rfl rfl
          have d104 : a1.tmps.getD 104 undef = .int .u64 (v : Nat) := hk.deps ⟨5, .data⟩ (by simp) rfl _ _ rfl rfl
          simp [Region.wanted, Oper.wp, Act.eval, go_sem, d100, d102, d104, hgt, h1, f1, f2, hBl]
          refine (HRP.out _ (HN2.out.2.trans ((show Below w2.heap.size w2 _ from below_trans (by repeat (first | exact Below.refl _ _ | (refine Below.drew ?_) | (refine below_drewN' ?_ _) | (refine below_alloc' ?_ _) | (refine Below.setCell ?_ (by first | exact Nat.le_refl _ | (simp; done) | (simp; omega)) _))) hk.ext).mono HN2.out.2.size))).mono ?_
          rintro e w9 ⟨v9, rfl, h9, hb9⟩
          exact hK _ _ hb9 h9
          | 7, _ =>
          obtain rfl := Option.some.inj hoq
          intro a1 w1 K hk hK
          have e15 : a1.tmps.getD 15 undef = .int .i64 0 := hk.same 15 (by simp)
          simp [Region.wanted, Oper.wp, Act.eval, go_sem, e15, hgt, h1, f1, f2, hBl]
          exact hK _ _ (Below.refl _ _) rfl
          | 8, _ =>
          obtain rfl := Option.some.inj hoq
          intro a1 w1 K hk hK
          have d106 : a1.tmps.getD 106 undef = .int .i64 0 := hk.deps ⟨7, .data⟩ (by simp) rfl _ _ rfl rfl
          simp [Region.wanted, Oper.wp, Act.eval, go_sem, d106, hgt, h1, f1, f2, hBl]
          exact hK _ _ (Below.refl _ _) rfl
          | 9, _ =>
          obtain rfl := Option.some.inj hoq
          intro a1 w1 K hk hK
          have d107 : a1.tmps.getD 107 undef = .bool true := hk.deps ⟨8, .data⟩ (by simp) rfl _ _ rfl rfl
          simp [Region.wanted, Oper.wp, Act.eval, go_sem, d107, hgt, h1, f1, f2, hBl]
          exact hK _ _ (Below.refl _ _) rfl
          | 10, _ =>
          obtain rfl := Option.some.inj hoq
          intro a1 w1 K hk hK
          have e14 : a1.tmps.getD 14 undef = .pointer (some ⟨g, 0, none⟩) := hk.same 14 (by simp)
          have gd : a1.tmps[108]? = some (.bool true) := getD_bool (hk.deps ⟨9, .guard⟩ (by simp) rfl _ _ rfl rfl)
          simp [Region.wanted, Oper.wp, Act.eval, go_sem, e14, gd, yielded, hgt, h1, f1, f2, hBl]
          exact hK _ _ (Below.refl _ _) rfl
          | 11, _ =>
          obtain rfl := Option.some.inj hoq
          intro a1 w1 K hk hK
          have d109 : a1.tmps.getD 109 undef = .pointer (some ⟨g, 0, none⟩) := hk.deps ⟨10, .data⟩ (by simp) rfl _ _ rfl rfl
          have gd : a1.tmps[108]? = some (.bool true) := getD_bool (hk.deps ⟨9, .guard⟩ (by simp) rfl _ _ rfl rfl)
          simp [Region.wanted, Oper.wp, Act.eval, go_sem, d109, gd, yielded, hgt, h1, f1, f2, hBl]
          exact hK _ _ (Below.refl _ _) rfl
          | 12, _ =>
          obtain rfl := Option.some.inj hoq
          intro a1 w1 K hk hK
          have d108 : a1.tmps.getD 108 undef = .bool true := hk.deps ⟨9, .data⟩ (by simp) rfl _ _ rfl rfl
          have d110 : a1.tmps.getD 110 undef = .bool true := hk.deps ⟨11, .data⟩ (by simp) rfl _ _ rfl rfl
          simp [Region.wanted, Oper.wp, Act.eval, go_sem, d108, d110, hgt, h1, f1, f2, hBl]
          exact hK _ _ (Below.refl _ _) rfl
          | 13, _ =>
          obtain rfl := Option.some.inj hoq
          intro a1 w1 K hk hK
          have d111 : a1.tmps.getD 111 undef = .bool true := hk.deps ⟨12, .data⟩ (by simp) rfl _ _ rfl rfl
          simp [Region.wanted, Oper.wp, Act.eval, go_sem, d111, hgt, h1, f1, f2, hBl]
          exact hK _ _ (Below.refl _ _) rfl
          | 14, _ =>
          obtain rfl := Option.some.inj hoq
          intro a1 w1 K hk hK
          have e17 : a1.tmps.getD 17 undef = .bool true := hk.same 17 (by simp)
          have gd : a1.tmps[112]? = some (.bool true) := getD_bool (hk.deps ⟨13, .guard⟩ (by simp) rfl _ _ rfl rfl)
          simp [Region.wanted, Oper.wp, Act.eval, go_sem, e17, gd, yielded, hgt, h1, f1, f2, hBl]
          exact hK _ _ (Below.refl _ _) rfl
          | 15, _ =>
          obtain rfl := Option.some.inj hoq
          intro a1 w1 K hk hK
          have d113 : a1.tmps.getD 113 undef = .bool true := hk.deps ⟨14, .data⟩ (by simp) rfl _ _ rfl rfl
          have gd : a1.tmps[112]? = some (.bool true) := getD_bool (hk.deps ⟨13, .guard⟩ (by simp) rfl _ _ rfl rfl)
          simp [Region.wanted, Oper.wp, Act.eval, go_sem, d113, gd, yielded, hgt, h1, f1, f2, hBl]
          exact hK _ _ (Below.refl _ _) rfl
          | 16, _ =>
          obtain rfl := Option.some.inj hoq
          intro a1 w1 K hk hK
          have e16 : a1.tmps.getD 16 undef = .int .u64 (x : Nat) := hk.same 16 (by simp)
          have gd : a1.tmps[114]? = some (.bool true) := getD_bool (hk.deps ⟨15, .guard⟩ (by simp) rfl _ _ rfl rfl)
          simp [Region.wanted, Oper.wp, Act.eval, go_sem, e16, gd, yielded, hgt, h1, f1, f2, hBl]
          exact hK _ _ (Below.refl _ _) rfl
          | 17, _ =>
          obtain rfl := Option.some.inj hoq
          intro a1 w1 K hk hK
          have e5 : a1.tmps.getD 5 undef = .pointer (some ⟨w.heap.size, 0, none⟩) := hk.same 5 (by simp)
          have gd : a1.tmps[114]? = some (.bool true) := getD_bool (hk.deps ⟨15, .guard⟩ (by simp) rfl _ _ rfl rfl)
          simp [Region.wanted, Oper.wp, Act.eval, go_sem, e5, gd, yielded, hgt, h1, f1, f2, hBl]
          exact hK _ _ (Below.refl _ _) rfl
          | 18, _ =>
          obtain rfl := Option.some.inj hoq
          intro a1 w1 K hk hK
          have d116 : a1.tmps.getD 116 undef = .pointer (some ⟨w.heap.size, 2, none⟩) := hk.deps ⟨17, .data⟩ (by simp) rfl _ _ rfl rfl
          have gd : a1.tmps[114]? = some (.bool true) := getD_bool (hk.deps ⟨15, .guard⟩ (by simp) rfl _ _ rfl rfl)
          have c0 : w1.cell? ⟨w.heap.size, 1, none⟩ = some (.slice A2 p.length c2) := Below.keeps hk.ext _ _ (by simp [go_sem, hgt, h1, f1, f2, hBl])
          have c1 : w1.cell? ⟨w.heap.size, 2, none⟩ = some (.int .u64 (v : Nat)) := Below.keeps hk.ext _ _ (by simp [go_sem, hgt, h1, f1, f2, hBl])
          simp [Region.wanted, Oper.wp, Act.eval, go_sem, d116, gd, yielded, c0, c1, hgt, h1, f1, f2, hBl]
          exact hK _ _ (Below.refl _ _) rfl
          | 19, _ =>
          obtain rfl := Option.some.inj hoq
          intro a1 w1 K hk hK
          have d115 : a1.tmps.getD 115 undef = .int .u64 (x : Nat) := hk.deps ⟨16, .data⟩ (by simp) rfl _ _ rfl rfl
          have d117 : a1.tmps.getD 117 undef = .int .u64 (v : Nat) := hk.deps ⟨18, .data⟩ (by simp) rfl _ _ rfl rfl
          have gd : a1.tmps[114]? = some (.bool true) := getD_bool (hk.deps ⟨15, .guard⟩ (by simp) rfl _ _ rfl rfl)
          simp [Region.wanted, Oper.wp, Act.eval, go_sem, d115, d117, gd, yielded, hgt, h1, f1, f2, hBl]
          exact hK _ _ (Below.refl _ _) rfl
          | 20, _ =>
          obtain rfl := Option.some.inj hoq
          intro a1 w1 K hk hK
          have d114 : a1.tmps.getD 114 undef = .bool true := hk.deps ⟨15, .data⟩ (by simp) rfl _ _ rfl rfl
          have d118 : a1.tmps.getD 118 undef = .bool false := hk.deps ⟨19, .data⟩ (by simp) rfl _ _ rfl rfl
          have gd : a1.tmps[112]? = some (.bool true) := getD_bool (hk.deps ⟨13, .guard⟩ (by simp) rfl _ _ rfl rfl)
          simp [Region.wanted, Oper.wp, Act.eval, go_sem, d114, d118, gd, yielded, hgt, h1, f1, f2, hBl]
          exact hK _ _ (Below.refl _ _) rfl
          | 21, _ =>
          obtain rfl := Option.some.inj hoq
          intro a1 w1 K hk hK
          have e14 : a1.tmps.getD 14 undef = .pointer (some ⟨g, 0, none⟩) := hk.same 14 (by simp)
          have gd : a1.tmps[112]? = some (.bool true) := getD_bool (hk.deps ⟨13, .guard⟩ (by simp) rfl _ _ rfl rfl)
          simp [Region.wanted, Oper.wp, Act.eval, go_sem, e14, gd, yielded, hgt, h1, f1, f2, hBl]
          exact hK _ _ (Below.refl _ _) rfl
          | 22, _ =>
          obtain rfl := Option.some.inj hoq
          intro a1 w1 K hk hK
          have e0 : a1.tmps.getD 0 undef = .pointer (some ⟨t, 0, none⟩) := hk.same 0 (by simp)
          have gd : a1.tmps[112]? = some (.bool true) := getD_bool (hk.deps ⟨13, .guard⟩ (by simp) rfl _ _ rfl rfl)
          simp [Region.wanted, Oper.wp, Act.eval, go_sem, e0, gd, yielded, hgt, h1, f1, f2, hBl]
          exact hK _ _ (Below.refl _ _) rfl
          | 23, _ =>
          obtain rfl := Option.some.inj hoq
          intro a1 w1 K hk hK
          have d120 : a1.tmps.getD 120 undef = .pointer (some ⟨g, 0, none⟩) := hk.deps ⟨21, .data⟩ (by simp) rfl _ _ rfl rfl
          have d121 : a1.tmps.getD 121 undef = .pointer (some ⟨t, 0, none⟩) := hk.deps ⟨22, .data⟩ (by simp) rfl _ _ rfl rfl
          have gd : a1.tmps[112]? = some (.bool true) := getD_bool (hk.deps ⟨13, .guard⟩ (by simp) rfl _ _ rfl rfl)
          simp [Region.wanted, Oper.wp, Act.eval, go_sem, d120, d121, gd, yielded, hgt, h1, f1, f2, hBl]
          rw [HEQ.out w1 (below_trans (by repeat (first | exact Below.refl _ _ | (refine Below.drew ?_) | (refine below_drewN' ?_ _) | (refine below_alloc' ?_ _) | (refine Below.setCell ?_ (by first | exact Nat.le_refl _ | (simp; done) | (simp; omega)) _))) hk.ext)]
          exact hK _ _ (Below.refl _ _) rfl
          | 24, _ =>
          obtain rfl := Option.some.inj hoq
          intro a1 w1 K hk hK
          have d119 : a1.tmps.getD 119 undef = .bool false := hk.deps ⟨20, .data⟩ (by simp) rfl _ _ rfl rfl
          have d122 : a1.tmps.getD 122 undef = .bool false := hk.deps ⟨23, .data⟩ (by simp) rfl _ _ rfl rfl
          have gd : a1.tmps[112]? = some (.bool true) := getD_bool (hk.deps ⟨13, .guard⟩ (by simp) rfl _ _ rfl rfl)
          simp [Region.wanted, Oper.wp, Act.eval, go_sem, d119, d122, gd, yielded, hgt, h1, f1, f2, hBl]
          exact hK _ _ (Below.refl _ _) rfl
          | 25, _ =>
          obtain rfl := Option.some.inj hoq
          intro a1 w1 K hk hK
          have d112 : a1.tmps.getD 112 undef = .bool true := hk.deps ⟨13, .data⟩ (by simp) rfl _ _ rfl rfl
          have d123 : a1.tmps.getD 123 undef = .bool true := hk.deps ⟨24, .data⟩ (by simp) rfl _ _ rfl rfl
          simp [Region.wanted, Oper.wp, Act.eval, go_sem, d112, d123, hgt, h1, f1, f2, hBl]
          exact hK _ _ (Below.refl _ _) rfl
          | 26, _ =>
          obtain rfl := Option.some.inj hoq
          intro a1 w1 K hk hK
          have d99 : a1.tmps.getD 99 undef = .pointer (some ⟨g, 0, none⟩) := hk.deps ⟨0, .data⟩ (by simp) rfl _ _ rfl rfl
          simp [Region.wanted, Oper.wp, Act.eval, go_sem, d99, hgt, h1, f1, f2, hBl]
          exact hK _ _ (Below.refl _ _) rfl
          | 27, _ =>
          obtain rfl := Option.some.inj hoq
          intro a1 w1 K hk hK
          have D105 : RdE w1 (a1.tmps.getD 105 undef) (insE p v l) := hk.deps ⟨6, .data⟩ (by simp) rfl _ _ rfl rfl
          simp [Region.wanted, Oper.wp, Act.eval, go_sem, hgt, h1, f1, f2, hBl]
          exact hK _ _ (Below.refl _ _) (by simpa [nthV] using D105)
          | k + 28, hk => exact absurd hk (by omega)
        · intro vs w3 hl hb3 hv
          match vs, hl with
          | v0 :: v1 :: v2 :: v3 :: v4 :: v5 :: v6 :: v7 :: v8 :: v9 :: v10 :: v11 :: v12 :: v13 :: v14 :: v15 :: v16 :: v17 :: v18 :: v19 :: v20 :: v21 :: v22 :: v23 :: v24 :: v25 :: v26 :: v27 :: [], _ =>
          obtain rfl : v0 = .pointer (some ⟨g, 0, none⟩) := hv 0 (by omega)
          obtain rfl : v1 = .slice AI l.length cI := hv 1 (by omega)
          obtain rfl : v2 = .pointer (some ⟨w.heap.size, 1, none⟩) := hv 2 (by omega)
          obtain rfl : v3 = .slice A2 p.length c2 := hv 3 (by omega)
          obtain rfl : v4 = .pointer (some ⟨w.heap.size, 2, none⟩) := hv 4 (by omega)
          obtain rfl : v5 = .int .u64 (v : Nat) := hv 5 (by omega)
          have q6 : RdE w3 v6 (insE p v l) := hv 6 (by omega)
          obtain rfl : v7 = .int .i64 0 := hv 7 (by omega)
          obtain rfl : v8 = .bool true := hv 8 (by omega)
          obtain rfl : v9 = .bool true := hv 9 (by omega)
          obtain rfl : v10 = .pointer (some ⟨g, 0, none⟩) := hv 10 (by omega)
          obtain rfl : v11 = .bool true := hv 11 (by omega)
          obtain rfl : v12 = .bool true := hv 12 (by omega)
          obtain rfl : v13 = .bool true := hv 13 (by omega)
          obtain rfl : v14 = .bool true := hv 14 (by omega)
          obtain rfl : v15 = .bool true := hv 15 (by omega)
          obtain rfl : v16 = .int .u64 (x : Nat) := hv 16 (by omega)
          obtain rfl : v17 = .pointer (some ⟨w.heap.size, 2, none⟩) := hv 17 (by omega)
          obtain rfl : v18 = .int .u64 (v : Nat) := hv 18 (by omega)
          obtain rfl : v19 = .bool false := hv 19 (by omega)
          obtain rfl : v20 = .bool false := hv 20 (by omega)
          obtain rfl : v21 = .pointer (some ⟨g, 0, none⟩) := hv 21 (by omega)
          obtain rfl : v22 = .pointer (some ⟨t, 0, none⟩) := hv 22 (by omega)
          obtain rfl : v23 = .bool false := hv 23 (by omega)
          obtain rfl : v24 = .bool true := hv 24 (by omega)
          obtain rfl : v25 = .bool true := hv 25 (by omega)
          obtain rfl : v26 = .pointer (some ⟨g, 0, none⟩) := hv 26 (by omega)
          have q27 : RdE w3 v27 (insE p v l) := hv 27 (by omega)
          clear hv
          simp only [putAll, List.take_succ_cons, List.take_zero, List.drop_succ_cons, List.drop_zero, Act.put, List.setIfInBounds_toArray, List.set_cons_succ, List.set_cons_zero]
          have hb4 : Below w2.heap.size w2 w3 := below_trans (by repeat (first | exact Below.refl _ _ | (refine Below.drew ?_) | (refine below_drewN' ?_ _) | (refine below_alloc' ?_ _) | (refine Below.setCell ?_ (by first | exact Nat.le_refl _ | (simp; done) | (simp; omega)) _))) hb3
          have HF := Lib.hid (And.intro (HN2.out.1.bel hb4) (And.intro q27 (HN2.out.2.trans (hb4.mono HN2.out.2.size))))
          clear q6 q27 hb3 hb4
          go_wp2_with fail
          ((try simp only [Exit.inBlock, Exit.then]); refine bodyPost_ret (results_tmp3 rfl _ _ _) rfl ?_)
          rw [HST.out]
          exact ⟨g, _, rfl, HF.out⟩
  · have HTD := Lib.hid (fun w1 (hb : Below w.heap.size w w1) => tput_dim w1 t k p.length c2 v A2 l (ht.bel hb) hk)
    have HST := Lib.hid (show stepL k l ⟨false, p, v⟩ = l by unfold stepL; rw [if_neg hk])
    have hn : ((p.length : Int) != (k : Int)) = true := by simp; omega
    have hn2 : ¬ (p.length : Int) = (k : Int) := by omega
    clear ht hp ho hl hk
    go_enter Try.func10, Try.ntmps10
    go_wp2_with fail
    refine (HTK.out _ (by repeat (first | exact Below.refl _ _ | (refine Below.drew ?_) | (refine below_drewN' ?_ _) | (refine below_alloc' ?_ _) | (refine Below.setCell ?_ (by first | exact Nat.le_refl _ | (simp; done) | (simp; omega)) _)))).mono ?_
    rintro e w1 ⟨rfl, hw⟩
    obtain rfl := hw.symm
    go_wp2_with fail
    refine (HTD.out _ (by repeat (first | exact Below.refl _ _ | (refine Below.drew ?_) | (refine below_drewN' ?_ _) | (refine below_alloc' ?_ _) | (refine Below.setCell ?_ (by first | exact Nat.le_refl _ | (simp; done) | (simp; omega)) _)))).mono ?_
    rintro e w1 ⟨rfl, hw⟩
    obtain rfl := hw.symm
    go_wp2_with fail
    ((try simp only [Exit.inBlock, Exit.then]); refine bodyPost_ret (results_tmp3 rfl _ _ _) rfl ?_)
    rw [HST.out]
    exact ⟨t, _, rfl, HT.out.1.bel (by repeat (first | exact Below.refl _ _ | (refine Below.drew ?_) | (refine below_drewN' ?_ _) | (refine below_alloc' ?_ _) | (refine Below.setCell ?_ (by first | exact Nat.le_refl _ | (simp; done) | (simp; omega)) _))), HT.out.2.below (by repeat (first | exact Below.refl _ _ | (refine Below.drew ?_) | (refine below_drewN' ?_ _) | (refine below_alloc' ?_ _) | (refine Below.setCell ?_ (by first | exact Nat.le_refl _ | (simp; done) | (simp; omega)) _))), (by repeat (first | exact Below.refl _ _ | (refine Below.drew ?_) | (refine below_drewN' ?_ _) | (refine below_alloc' ?_ _) | (refine Below.setCell ?_ (by first | exact Nat.le_refl _ | (simp; done) | (simp; omega)) _)))⟩
theorem done_any (w : World) (t k : Nat) (a : Ac) (l : List En) (vin vp : Value) (ht : TrR w t k l) (hin : RdE w vin l) (hl : EtS k l) (hp : RdU w vp (pti a.p)) (ho : a.Ok) :
    Calls Try.prog 10 #[.pointer (some ⟨t, 0, none⟩), vin, .agg #[.bool a.del, vp, .int .u64 (a.v : Nat)]] w fun e w' => DoneP w k (stepL k l a) e w' := by
  obtain ⟨d, p, v⟩ := a
  cases d with
  | true => exact done_del w t k p v l vin vp ht hin hl hp ho
  | false => exact done_put w t k p v l vin vp ht hin hl hp ho
end Go.Proofs.Ytdkomhmciihkiaa
/-! TrG -/
namespace Go.Proofs.Ytdkomhmciihkiaa
open Go.RowKit
set_option linter.unusedVariables false
set_option linter.unusedSimpArgs false

/-- an act at a block's offset -/
def AcAt (w : World) (b o : Nat) (a : Ac) : Prop := ∃ u, w.cell? ⟨b, o, none⟩ = some (.bool a.del) ∧ w.cell? ⟨b, o + 1, none⟩ = some u ∧ RdU w u (pti a.p) ∧ w.cell? ⟨b, o + 2, none⟩ = some (.int .u64 (a.v : Nat))
theorem AcAt.keep {w w' : World} {b o : Nat} {a : Ac} (h : AcAt w b o a) (hk : ∀ a x, w.cell? a = some x → w'.cell? a = some x) : AcAt w' b o a := by
  obtain ⟨u, h0, h1, h2, h3⟩ := h
  exact ⟨u, hk _ _ h0, hk _ _ h1, RdU.keep h2 hk, hk _ _ h3⟩
/-- the slice value v reads as the list l of acts -/
def RdA (w : World) (v : Value) (l : List Ac) : Prop :=
  ∃ A c, v = .slice A l.length c ∧ (0 < l.length → ∃ b o, A = some ⟨b, o, none⟩ ∧ ∀ j (h : j < l.length), AcAt w b (o + j * 3) l[j])
theorem RdA.keep {w w' : World} {v : Value} {l : List Ac} (h : RdA w v l) (hk : ∀ a x, w.cell? a = some x → w'.cell? a = some x) : RdA w' v l := by
  obtain ⟨A, c, e, h⟩ := h
  exact ⟨A, c, e, fun hp => let ⟨b, o, ha, hc⟩ := h hp; ⟨b, o, ha, fun j hj => (hc j hj).keep hk⟩⟩
theorem RdA.below {w w' : World} {v : Value} {l : List Ac} (h : RdA w v l) (hb : Below w.heap.size w w') : RdA w' v l := RdA.keep h (Below.keeps hb)
def playL (k : Nat) (l : List En) (acts : List Ac) : List En := acts.foldl (stepL k) l
theorem play_take (k : Nat) (l : List En) (acts : List Ac) (j : Nat) (h : j < acts.length) : playL k l (acts.take (j + 1)) = stepL k (playL k l (acts.take j)) acts[j] := by
  unfold playL
  rw [← List.take_append_getElem h, List.foldl_append]
  rfl
theorem play_len (k : Nat) (l : List En) (acts : List Ac) : (playL k l acts).length ≤ l.length + acts.length := by
  induction acts generalizing l with
  | nil => exact Nat.le_refl _
  | cons a acts ih =>
    have h1 := ih (stepL k l a)
    have h2 := step_len k l a
    show (playL k (stepL k l a) acts).length ≤ _
    simp only [List.length_cons]
    omega
theorem Et.play {k : Nat} {l : List En} (h : Et k l) (acts : List Ac) (ho : ∀ a ∈ acts, a.Ok) : Et k (playL k l acts) := by
  induction acts generalizing l with
  | nil => exact h
  | cons a acts ih => exact ih (h.step a (ho a (by simp))) fun b hb => ho b (by simp [hb])
theorem EtS.play {k : Nat} {l : List En} (h : EtS k l) (acts : List Ac) (ho : ∀ a ∈ acts, a.Ok) (hs : l.length + acts.length ≤ 1000) : EtS k (playL k l acts) :=
  ⟨h.et.play acts ho, h.k40, Nat.le_trans (play_len k l acts) hs⟩
def heavyL (l : List Ac) (most : Int) : Bool := decide ((l.length : Int) > most) || l.any fun a => decide (a.p.length > 40)
set_option maxRecDepth 100000
theorem heavyA_any (w : World) (l : List Ac) (v : Value) (most : Int) (hv : RdA w v l) (hl : l.length ≤ maxLen) :
    Calls Try.prog 5 #[v, .int .i64 most] w fun e w' => e = .returned (.bool (heavyL l most)) ∧ w' = w := by
  obtain ⟨A, c, rfl, hx⟩ := hv
  have HX := Lib.hid hx
  have HL := Lib.hid (show l.length ≤ 9223372036854775807 from Nat.le_trans hl (by decide))
  clear hx hl
  by_cases hm : (l.length : Int) > most
  · have HH := Lib.hid (show heavyL l most = true by unfold heavyL; rw [decide_eq_true hm]; rfl)
    go_enter Try.func5, Try.ntmps5
    go_wp2_with fail
    go_ret
    exact ⟨by rw [HH.out] <;> rfl, rfl⟩
  · have hh : heavyL l most = l.any fun a => decide (a.p.length > 40) := by unfold heavyL; rw [decide_eq_false hm]; rfl
    have HH := Lib.hid hh
    clear hh
    go_enter Try.func5, Try.ntmps5
    go_wp2_with fail
    go_loopw [5] (fun iv wr => ∃ j : Nat, j ≤ l.length ∧ iv = .int .i64 (j : Nat) ∧ wr = w ∧ (l.take j).any (fun a => decide (a.p.length > 40)) = false) (fun iv _ => l.length - (intOf iv).toNat)
    case atStart => exact ⟨0, Nat.zero_le _, rfl, rfl, by simp⟩
    case round =>
      obtain ⟨j, hj, rfl, hw, hany⟩ := hrel
      subst hw
      by_cases hlt : j < l.length
      · have h3 : (j : Int) < (l.length : Int) := by omega
        have h5 : (0 : Int) ≤ (j : Int) := by omega
        have HW := Lib.hid (show wrap64 ((j : Int) + 1) = ((j + 1 : Nat) : Int) by have := HL.out; unfold wrap64; omega)
        obtain ⟨b2, o2, rfl, hc⟩ := HX.out (by omega)
        obtain ⟨u, k0, k1, ku, k2⟩ := hc j hlt
        have htk : (l.take (j + 1)).any (fun a => decide (a.p.length > 40)) = decide (l[j].p.length > 40) := by rw [← List.take_append_getElem hlt, List.any_append, hany]; simp
        have hall : decide (l[j].p.length > 40) = true → (l.any fun a => decide (a.p.length > 40)) = true := fun h => List.any_eq_true.2 ⟨_, List.getElem_mem hlt, h⟩
        have HT := Lib.hid (And.intro htk hall)
        have hlb := World.block_lt_of_cell? _ _ k0
        obtain ⟨Au, cu, rfl, _⟩ := RdU.point ku
        generalize l[j] = ac at *
        clear hc htk hall ku hany
        by_cases h40 : (ac.p.length : Int) > 40
        · go_wp2_with fail
          go_ret
          exact ⟨by rw [HH.out, HT.out.2 (by simp; omega)] <;> rfl, rfl⟩
        · go_wp2_with fail
          go_roundw
          case rel => exact ⟨j + 1, by omega, (by first | rw [HW.out] | rfl | simp), (by first | rfl | trivial), by rw [HT.out.1]; simp; omega⟩
          case measure => (first | (rw [intOf_of' HW.out, intOf_of' rfl]; omega) | (simp [intOf]; omega) | (simp [intOf] <;> omega))
      · have h3 : ¬ (j : Int) < (l.length : Int) := by omega
        rw [List.take_of_length_le (by omega)] at hany
        have HA := Lib.hid hany
        clear hany
        go_wp2_with fail
        go_ret
        exact ⟨by rw [HH.out, HA.out] <;> rfl, rfl⟩
set_option maxHeartbeats 4000000 in
theorem grown_any (w : World) (k : Nat) (acts : List Ac) (v : Value) (k1 : 1 ≤ k) (k16 : k ≤ 16) (hv : RdA w v acts) (ho : ∀ a ∈ acts, a.Ok) (hl : acts.length ≤ 900) :
    Calls Try.prog 6 #[.int .i64 (k : Nat), v] w fun e w' => DoneP w k (playL k [] acts) e w' := by
  have HNW := Lib.hid (tnew_any w k k1 k16)
  have HD := Lib.hid (And.intro k16 hl)
  have HA := Lib.hid hv
  have HO := Lib.hid ho
  obtain ⟨A, c, rfl, hx⟩ := hv
  have HX := Lib.hid hx
  clear k1 k16 ho hl hx
  go_enter Try.func6, Try.ntmps6
  go_wp2_with fail
  refine HNW.out.mono ?_
  rintro e w1 ⟨t, rfl, ht, hb⟩
  have HT := Lib.hid (And.intro ht hb)
  clear ht hb
  go_wp2_with fail
  go_loopw [7, 9, 10, 11, 12, 13] (fun tv vin iv _ _ _ wr => ∃ (t' j : Nat), j ≤ acts.length ∧ tv = .pointer (some ⟨t', 0, none⟩) ∧ iv = .int .i64 (j : Nat) ∧ TrR wr t' k (playL k [] (acts.take j)) ∧ RdE wr vin (playL k [] (acts.take j)) ∧ Below w.heap.size w wr) (fun _ _ iv _ _ _ _ => acts.length - (intOf iv).toNat)
  case atStart => exact ⟨t, 0, Nat.zero_le _, rfl, rfl, HT.out.1.bel (by repeat (first | exact Below.refl _ _ | (refine Below.drew ?_) | (refine below_drewN' ?_ _) | (refine below_alloc' ?_ _) | (refine Below.setCell ?_ (by first | exact Nat.le_refl _ | (simp; done) | (simp; omega)) _))), ⟨_, _, rfl, ⟨Nat.le_refl _, Nat.zero_le _, fun h => absurd h (by omega)⟩, fun h => absurd h (by simp [playL])⟩, (by repeat (first | exact HT.out.2 | (refine Below.drew ?_) | (refine below_alloc' ?_ _)))⟩
  case round =>
    obtain ⟨t', j, hj, rfl, rfl, ht, hin, hb⟩ := hrel
    by_cases hlt : j < acts.length
    · have h3 : (j : Int) < (acts.length : Int) := by omega
      have h5 : (0 : Int) ≤ (j : Int) := by omega
      have HW := Lib.hid (show wrap64 ((j : Int) + 1) = ((j + 1 : Nat) : Int) by have := HD.out.2; unfold wrap64; omega)
      obtain ⟨b2, o2, rfl, hc⟩ := HX.out (by omega)
      obtain ⟨u, k0, k1, ku, k2⟩ := (hc j hlt).keep (Below.keeps hb)
      have hoj := HO.out acts[j] (List.getElem_mem hlt)
      have hpl := play_take k [] acts j hlt
      have HES : EtS k (playL k [] (acts.take j)) := EtS.play ⟨Et.nil k, by have := HD.out.1; omega, by simp⟩ _ (fun a ha => HO.out a (List.mem_of_mem_take ha)) (by rw [List.length_nil, List.length_take]; have := HD.out.2; omega)
      have HDN := Lib.hid (done_any wr t' k acts[j] _ _ _ ht hin HES ku hoj)
      rw [← hpl] at HDN
      have HB := Lib.hid hb
      have hlb := World.block_lt_of_cell? wr _ k0
      obtain ⟨Au, cu, rfl, _⟩ := RdU.point ku
      obtain ⟨AI, cI, rfl, _⟩ := hin
      generalize acts[j] = ac at *
      generalize playL k [] (acts.take j) = l1 at *
      clear hc hoj HES hpl hb ht ku
      go_wp2_with fail
      refine HDN.out.mono ?_
      rintro e w2 ⟨t2, vin2, rfl, ht2, hin2, hb2⟩
      have HN := Lib.hid (And.intro ht2 (And.intro hin2 (HB.out.trans (hb2.mono HB.out.size))))
      clear ht2 hin2 hb2
      go_wp2_with fail
      go_roundw
      case rel => exact ⟨t2, j + 1, by omega, rfl, (by first | rw [HW.out] | rfl | simp), HN.out.1, HN.out.2.1, HN.out.2.2⟩
      case measure => (first | (rw [intOf_of' HW.out, intOf_of' rfl]; omega) | (simp [intOf]; omega) | (simp [intOf] <;> omega))
    · have h3 : ¬ (j : Int) < (acts.length : Int) := by omega
      have e : acts.take j = acts := List.take_of_length_le (by omega)
      rw [e] at ht hin
      have HN := Lib.hid (And.intro ht (And.intro hin hb))
      obtain ⟨AI, cI, rfl, _⟩ := hin
      clear ht hb
      go_wp2_with fail
      ((try simp only [Exit.inBlock, Exit.then]); refine bodyPost_ret (results_tmp3 rfl _ _ _) rfl ?_)
      exact ⟨t', _, rfl, HN.out⟩
end Go.Proofs.Ytdkomhmciihkiaa
/-! RefA -/
namespace Go.Proofs.Ytdkomhmciihkiaa
open Go.RowKit
set_option linter.unusedVariables false
set_option linter.unusedSimpArgs false

set_option maxRecDepth 100000
































end Go.Proofs.Ytdkomhmciihkiaa
/-! RefK -/
namespace Go.Proofs.Ytdkomhmciihkiaa
open Go.RowKit
set_option linter.unusedVariables false
set_option linter.unusedSimpArgs false

set_option maxRecDepth 100000






































































/-- a slice of slices of entries is handed back: parts of a list that is read in W -/
def GrpP (W0 W : World) (gs : List (List En)) (w' : World) (v : Value) : Prop := ∃ vs : List Value, OwnV 27 W w' v vs ∧ vs.length = gs.length ∧ ∀ i (h : i < vs.length) (h' : i < gs.length), RdE W0 vs[i] gs[i]
end Go.Proofs.Ytdkomhmciihkiaa
/-! RefL -/
namespace Go.Proofs.Ytdkomhmciihkiaa
open Go.RowKit
set_option linter.unusedVariables false
set_option linter.unusedSimpArgs false

theorem GrpP.below {W0 W w w' : World} {gs : List (List En)} {v : Value} (h : GrpP W0 W gs w v) (hb : Below w.heap.size w w') : GrpP W0 W gs w' v := let ⟨vs, h1, h2⟩ := h; ⟨vs, h1.below hb, h2⟩
set_option maxRecDepth 100000































































































































































end Go.Proofs.Ytdkomhmciihkiaa
/-! RefS -/
namespace Go.Proofs.Ytdkomhmciihkiaa
open Go.RowKit
set_option linter.unusedVariables false
set_option linter.unusedSimpArgs false

/-- a value reads as a shape -/
def ShR (w : World) (x : Value) (s : Sh) : Prop := ∃ u pl, x = .agg #[.int .i64 s.lv, u, pl, .bool s.dense, .int .u64 (s.v : Nat)] ∧ RdU w u (pti s.pre) ∧ Sl w pl (s.pl.map fun (x : Nat) => Value.int .i64 (x : Nat))
theorem ShR.below {w w' : World} {x : Value} {s : Sh} (h : ShR w x s) (hb : Below w.heap.size w w') : ShR w' x s := let ⟨u, pl, h1, h2, h3⟩ := h; ⟨u, pl, h1, h2.below hb, h3.below hb⟩
theorem ShV.rd {W w : World} {s : Sh} {x : Value} (h : ShV W w s x) : ShR w x s := let ⟨u, p9, h1, h2, h3⟩ := h.ex; ⟨u, p9, h1, h2.rd, h3.rd⟩
/-- a shape whose rows are told apart from rows of shapes by their blocks' types, or were there in W0 -/
def ShK (W0 W w : World) (x : Value) (s : Sh) : Prop := ∃ u pl, x = .agg #[.int .i64 s.lv, u, pl, .bool s.dense, .int .u64 (s.v : Nat)] ∧ (RdU W0 u (pti s.pre) ∨ PtNew w u s.pre) ∧ OwnV 3 W w pl (s.pl.map fun (x : Nat) => Value.int .i64 (x : Nat))
theorem ShK.below {W0 W w w' : World} {x : Value} {s : Sh} (h : ShK W0 W w x s) (hb : Below w.heap.size w w') : ShK W0 W w' x s := by
  obtain ⟨u, pl, h1, h2, h3⟩ := h
  exact ⟨u, pl, h1, h2.imp id (·.below hb), h3.below hb⟩
theorem ShK.rd {W0 W w : World} {x : Value} {s : Sh} (h : ShK W0 W w x s) (hb : Below W0.heap.size W0 w) : ShR w x s := by
  obtain ⟨u, pl, h1, h2, h3⟩ := h
  exact ⟨u, pl, h1, h2.elim (·.below hb) (·.rd), h3.rd⟩
theorem ShV.k {W0 W w : World} {s : Sh} {x : Value} (h : ShV W w s x) : ShK W0 W w x s := let ⟨u, p9, h1, h2, h3⟩ := h.ex; ⟨u, p9, h1, .inr h2, h3⟩
theorem Kd.k1 {k n : Nat} {pre : List Nat} {ks : List (Nat × List En)} (h : Kd k n pre ks) : 1 ≤ k := by
  obtain ⟨x, hx, y, hy, hlt, _⟩ := h.ends
  have h1 := h.addr_lt hy
  rcases Nat.eq_zero_or_pos k with rfl | h0
  · simp at h1; omega
  · exact h0
set_option maxRecDepth 100000
































































































































end Go.Proofs.Ytdkomhmciihkiaa
/-! RefT -/
namespace Go.Proofs.Ytdkomhmciihkiaa
open Go.RowKit
set_option linter.unusedVariables false
set_option linter.unusedSimpArgs false
set_option maxRecDepth 100000

theorem OwnV.cellsAt {t : TypeId} {W w : World} {g n c : Nat} {l : List Value} (h : OwnV t W w (.slice (some ⟨g, 0, none⟩) n c) l) (h0 : l ≠ []) : ∀ j (hj : j < l.length), w.cell? ⟨g, j, none⟩ = some l[j] := by
  obtain ⟨g', n', e, _, hc⟩ := h.cells h0
  injection e with e _ _
  injection e with e
  injection e with e _ _
  subst e
  exact hc












end Go.Proofs.Ytdkomhmciihkiaa
/-! RowS -/
namespace Go.Proofs.Ytdkomhmciihkiaa
open Go.RowKit
set_option linter.unusedVariables false
set_option linter.unusedSimpArgs false


/-- a shape's rows: the point's, the places' -/
abbrev PtS' := Value → Value → Sh → Prop
/-- the cells cs hold the shapes l, Pt saying what their rows read as -/
def CellsS (Pt : PtS') : List Sh → List Value → Prop
  | [], cs => cs = []
  | s :: l, cs => ∃ u pl ds, cs = .int .i64 s.lv :: u :: pl :: .bool s.dense :: .int .u64 (s.v : Nat) :: ds ∧ Pt u pl s ∧ CellsS Pt l ds
theorem CellsS.length {Pt : PtS'} {cs : List Value} {l : List Sh} (h : CellsS Pt l cs) : cs.length = l.length * 5 := by
  induction l generalizing cs with
  | nil => obtain rfl : cs = [] := h; rfl
  | cons e l ih => obtain ⟨u, pl, ds, rfl, _, h⟩ := h; have := ih h; simp; omega
theorem CellsS.append {Pt : PtS'} {cs ds : List Value} {l m : List Sh} (h : CellsS Pt l cs) (k : CellsS Pt m ds) : CellsS Pt (l ++ m) (cs ++ ds) := by
  induction l generalizing cs with
  | nil => obtain rfl : cs = [] := h; exact k
  | cons e l ih => obtain ⟨u, pl, ds, rfl, hu, h⟩ := h; exact ⟨u, pl, _, rfl, hu, ih h⟩
theorem CellsS.mono {Pt Qt : PtS'} {cs : List Value} {l : List Sh} (h : CellsS Pt l cs) (hk : ∀ u p s, Pt u p s → Qt u p s) : CellsS Qt l cs := by
  induction l generalizing cs with
  | nil => exact h
  | cons e l ih => obtain ⟨u, pl, ds, rfl, hu, h⟩ := h; exact ⟨u, pl, ds, rfl, hk _ _ _ hu, ih h⟩
/-- rows are slices -/
def SlicesP (Pt : PtS') : Prop := ∀ u p s, Pt u p s → u.oneCell' = true ∧ p.oneCell' = true
theorem CellsS.oneCell {Pt : PtS'} (hp : SlicesP Pt) {cs : List Value} {l : List Sh} (h : CellsS Pt l cs) : ∀ u ∈ cs, u.oneCell' = true := by
  induction l generalizing cs with
  | nil => obtain rfl : cs = [] := h; intro u hu; simp at hu
  | cons e l ih =>
    obtain ⟨u, pl, ds, rfl, hu, h⟩ := h
    intro y hy
    simp only [List.mem_cons] at hy
    rcases hy with rfl | rfl | rfl | rfl | rfl | hy
    · rfl
    · exact (hp _ _ _ hu).1
    · exact (hp _ _ _ hu).2
    · rfl
    · rfl
    · exact ih h y hy
/-- a shape at a block's offset -/
def ShAt (Pt : PtS') (w : World) (b o : Nat) (s : Sh) : Prop := ∃ u pl, w.cell? ⟨b, o, none⟩ = some (.int .i64 s.lv) ∧ w.cell? ⟨b, o + 1, none⟩ = some u ∧ w.cell? ⟨b, o + 2, none⟩ = some pl ∧ w.cell? ⟨b, o + 3, none⟩ = some (.bool s.dense) ∧ w.cell? ⟨b, o + 4, none⟩ = some (.int .u64 (s.v : Nat)) ∧ Pt u pl s
theorem CellsS.at {Pt : PtS'} {w : World} {cs : List Value} {l : List Sh} (h : CellsS Pt l cs) {b o : Nat} (hc : ∀ j (h : j < cs.length), w.cell? ⟨b, o + j, none⟩ = some cs[j]) :
    ∀ j (h : j < l.length), ShAt Pt w b (o + j * 5) l[j] := by
  induction l generalizing cs o with
  | nil => intro j hj; simp at hj
  | cons e l ih =>
    obtain ⟨u, pl, ds, rfl, hu, h⟩ := h
    · intro j hj
      cases j with
      | zero =>
        have c0 := hc 0 (by simp)
        have c1 := hc 1 (by simp)
        have c2 := hc 2 (by simp)
        have c3 := hc 3 (by simp)
        have c4 := hc 4 (by simp)
        simp only [List.getElem_cons_zero, List.getElem_cons_succ, Nat.add_zero] at c0 c1 c2 c3 c4
        simp only [List.getElem_cons_zero, Nat.zero_mul, Nat.add_zero]
        exact ⟨u, pl, c0, c1, c2, c3, c4, hu⟩
      | succ j =>
        have := ih h (o := o + 5) (fun i hi => by
          have := hc (i + 5) (by simpa using hi)
          simp only [List.getElem_cons_succ] at this
          rw [show o + 5 + i = o + (i + 5) by omega]; exact this) j (by simpa using hj)
        simp only [List.getElem_cons_succ]
        rw [show o + (j + 1) * 5 = o + 5 + j * 5 by omega]; exact this
/-- the slice value v reads as the list l of shapes -/
def RdS (Pt : PtS') (w : World) (v : Value) (l : List Sh) : Prop :=
  ∃ A c, v = .slice A l.length c ∧ (0 < l.length → ∃ b, A = some ⟨b, 0, none⟩ ∧ ∀ j (h : j < l.length), ShAt Pt w b (j * 5) l[j])




































/-- shapes to be appended -/
def SrcS (Pt : PtS') (w : World) (x : Value) (m : List Sh) : Prop := ∃ cs, CellsS Pt m cs ∧ Src w 5 m.length x cs












theorem SrcS.one {Pt : PtS'} (hp : SlicesP Pt) {w : World} {b cc : Nat} {s : Sh} {u pl : Value} (hu : Pt u pl s) (k0 : w.cell? ⟨b, 0, none⟩ = some (.int .i64 s.lv)) (k1 : w.cell? ⟨b, 1, none⟩ = some u) (k2 : w.cell? ⟨b, 2, none⟩ = some pl)
    (k3 : w.cell? ⟨b, 3, none⟩ = some (.bool s.dense)) (k4 : w.cell? ⟨b, 4, none⟩ = some (.int .u64 (s.v : Nat))) : SrcS Pt w (.slice (some ⟨b, 0, none⟩) 1 cc) [s] := by
  have hn : CellsS Pt [s] [.int .i64 s.lv, u, pl, .bool s.dense, .int .u64 (s.v : Nat)] := ⟨u, pl, [], rfl, hu, rfl⟩
  refine ⟨_, hn, rfl, hn.oneCell hp, _, cc, rfl, (fun h => by cases h), fun ad had j x hj => ?_⟩
  injection had with had; subst had
  match j with
  | 0 => simp at hj; subst hj; simpa [Addr.add] using k0
  | 1 => simp at hj; subst hj; simpa [Addr.add] using k1
  | 2 => simp at hj; subst hj; simpa [Addr.add] using k2
  | 3 => simp at hj; subst hj; simpa [Addr.add] using k3
  | 4 => simp at hj; subst hj; simpa [Addr.add] using k4
  | j + 5 => simp at hj















end Go.Proofs.Ytdkomhmciihkiaa
/-! RefU -/
namespace Go.Proofs.Ytdkomhmciihkiaa
open Go.RowKit
set_option linter.unusedVariables false
set_option linter.unusedSimpArgs false
set_option maxRecDepth 100000

/-- what a shape's rows read as -/
def PtK (W0 W w : World) : PtS' := fun u pl s => (RdU W0 u (pti s.pre) ∨ PtNew w u s.pre) ∧ OwnV 3 W w pl (s.pl.map fun (x : Nat) => Value.int .i64 (x : Nat))
theorem PtK.below {W0 W w w' : World} (hb : Below w.heap.size w w') : ∀ u p s, PtK W0 W w u p s → PtK W0 W w' u p s := fun u p s h => ⟨h.1.imp id (·.below hb), h.2.below hb⟩
theorem PtK.base {W0 W W' w : World} (hs : W.heap.size ≤ W'.heap.size) : ∀ u p s, PtK W0 W' w u p s → PtK W0 W w u p s := fun u p s h => ⟨h.1, h.2.base hs⟩









theorem flat_len (ks : List (Nat × List En)) (h : ∀ x ∈ ks, (shapesL x.2).length + 1 ≤ 2 * x.2.length) : (ks.flatMap fun x => shapesL x.2).length + ks.length ≤ 2 * (cat ks).length := by
  induction ks with
  | nil => simp [cat]
  | cons x ks ih =>
    have h1 := h x (by simp)
    have h2 := ih fun y hy => h y (by simp [hy])
    unfold cat at h2 ⊢
    simp only [List.flatMap_cons, List.length_append, List.length_cons]
    omega
theorem Tn.len {k : Nat} {l : List En} (h : Tn k l) : (shapesL l).length + 1 ≤ 2 * l.length := by
  induction h with
  | one e h => rw [shapes_one]; simp
  | node n pre ks hk hn ih =>
    rw [Tn.shapes hk hn]
    have := flat_len ks ih
    have h2 := hk.two
    simp only [List.length_cons]
    omega
end Go.Proofs.Ytdkomhmciihkiaa
/-! RefV -/
namespace Go.Proofs.Ytdkomhmciihkiaa
open Go.RowKit
set_option linter.unusedVariables false
set_option linter.unusedSimpArgs false
set_option maxRecDepth 100000





























































end Go.Proofs.Ytdkomhmciihkiaa
/-! RefW -/
namespace Go.Proofs.Ytdkomhmciihkiaa
open Go.RowKit
set_option linter.unusedVariables false
set_option linter.unusedSimpArgs false
set_option maxRecDepth 100000

/-- a shape's rows, read -/
def PtR (w : World) : PtS' := fun u pl s => RdU w u (pti s.pre) ∧ Sl w pl (s.pl.map fun (x : Nat) => Value.int .i64 (x : Nat))
theorem PtK.rd {W0 W w : World} (hb : Below W0.heap.size W0 w) : ∀ u p s, PtK W0 W w u p s → PtR w u p s := fun u p s h => ⟨h.1.elim (·.below hb) (·.rd), h.2.rd⟩
theorem PtR.below {w w' : World} (hb : Below w.heap.size w w') : ∀ u p s, PtR w u p s → PtR w' u p s := fun u p s h => ⟨h.1.below hb, h.2.below hb⟩


































































































































































end Go.Proofs.Ytdkomhmciihkiaa
/-! RefX -/
namespace Go.Proofs.Ytdkomhmciihkiaa
open Go.RowKit
set_option linter.unusedVariables false
set_option linter.unusedSimpArgs false
set_option maxRecDepth 100000

/-- the sums that are being made: the block's cells -/
def SB (w : World) (G : Nat) (S : Sm) : Prop := w.heap[G]? = some (.cells #[.int .u64 (S.n : Nat), .int .u64 (S.s : Nat), .int .u64 (S.mn : Nat), .int .u64 (S.mx : Nat)] 79 (0, 0))
theorem SB.cell {w : World} {G : Nat} {S : Sm} (h : SB w G S) (i : Nat) : w.cell? ⟨G, i, none⟩ = (#[.int .u64 (S.n : Nat), .int .u64 (S.s : Nat), .int .u64 (S.mn : Nat), .int .u64 (S.mx : Nat)] : Array Value)[i]? := by
  unfold SB at h; simp [World.cell?, h]
/-- one more -/
def Sm.step (S : Sm) (j v : Nat) : Sm := ⟨(S.n + 1) % 2 ^ 64, (S.s + v) % 2 ^ 64, if j = 0 ∨ v < S.mn then v else S.mn, if S.mx < v then v else S.mx⟩
end Go.Proofs.Ytdkomhmciihkiaa
/-! TrS -/
namespace Go.Proofs.Ytdkomhmciihkiaa
open Go.RowKit
set_option linter.unusedVariables false
set_option linter.unusedSimpArgs false
set_option maxRecDepth 100000

theorem OwnV.last {t : TypeId} {W w : World} {v x : Value} {l : List Value} (h : OwnV t W w v (l ++ [x])) :
    ∃ g c, v = .slice (some ⟨g, 0, none⟩) (l.length + 1) c ∧ w.cell? ⟨g, l.length, none⟩ = some x ∧ OwnV t W w (.slice (some ⟨g, 0, none⟩) l.length c) l ∧ l.length + 1 ≤ c := by
  obtain ⟨g, c, rfl, hg, hc⟩ := h.cells (by simp)
  have hc' := hc l.length (by simp)
  obtain ⟨h1, h2⟩ := h
  rw [List.length_append, List.length_singleton] at h2 ⊢
  rcases h2 with ⟨h2, _⟩ | ⟨g', cap, cur, q1, q2, q3, q4, q5, q6, q7⟩
  · cases h2
  · injection q1 with q1 _ q1'
    injection q1 with q1
    injection q1 with q1
    subst q1 q1'
    refine ⟨g, c, rfl, by rw [hc']; simp, ⟨by simp, .inr ⟨g, c, cur, rfl, q2, q3, by omega, q5, q6, ?_⟩⟩, q4⟩
    have := congrArg (List.take l.length) q7
    rw [List.take_take, List.take_left] at this
    rw [Nat.mul_one] at this ⊢
    rw [Nat.min_eq_left (by omega)] at this
    exact this
end Go.Proofs.Ytdkomhmciihkiaa
/-! PrsA -/
namespace Go.Proofs.Ytdkomhmciihkiaa
open Go.RowKit
set_option linter.unusedVariables false
set_option linter.unusedSimpArgs false
set_option maxRecDepth 100000

theorem RdU.nth {w : World} {g n : Nat} {p : List Nat} {c : Nat} (h : PtNew w (.slice (some ⟨g, 0, none⟩) n c) p) (j : Nat) (hj : j < p.length) : w.cell? ⟨g, j, none⟩ = some (.int .u64 (p[j] : Nat)) := by
  obtain ⟨A, c', e, hx⟩ := h.rd.slice
  obtain ⟨b, o, rfl, hc⟩ := hx (by rw [pti_length9]; omega)
  simp only [Value.slice.injEq, Option.some.injEq, Addr.mk.injEq] at e
  obtain ⟨⟨rfl, rfl, _⟩, _⟩ := e
  have := hc j (by rw [pti_length9]; exact hj)
  simp only [pti, List.getElem_map, Nat.zero_add] at this
  exact this
theorem gl_take (l : List Nat) (j : Nat) (hj : j < l.length) : (l.take (j + 1)).foldl max 0 = max ((l.take j).foldl max 0) l[j] := by
  rw [← List.take_append_getElem hj, List.foldl_append]
  rfl
/-- the box of a node, once it has been asked for -/
def BoxR (w : World) (k : Nat) (p : List Nat) (m : Nat) (X : Nat) : Prop := ∃ g h, w.heap[X]? = some (.cells #[.slice (some ⟨g, 0, none⟩) k k, .slice (some ⟨h, 0, none⟩) k k] 97 (0, 0)) ∧ PtNew w (.slice (some ⟨g, 0, none⟩) k k) p ∧ PtNew w (.slice (some ⟨h, 0, none⟩) k k) (p.map fun c => c + (2 ^ m - 1))
theorem BoxR.below {w w' : World} {k : Nat} {p : List Nat} {m X : Nat} (h : BoxR w k p m X) (hb : Below w.heap.size w w') : BoxR w' k p m X :=
  let ⟨g, h1, h2, h3, h4⟩ := h
  ⟨g, h1, (hb.block _ (lt_of_block h2)).trans h2, h3.below hb, h4.below hb⟩
theorem max_val {f a b : Nat} (h : b ≤ a) (ha : a < 2 ^ 64) : Value.int .u64 (max (f : Int) (IntKind.u64.wrap ((a : Int) - (b : Int)))) = .int .u64 ((max f (a - b) : Nat) : Int) := by
  congr 1
  rw [IntKind.wrap_u64]
  rcases Nat.le_total f (a - b) with h1 | h1
  · rw [Nat.max_eq_right h1, Int.max_eq_right (by omega)]; omega
  · rw [Nat.max_eq_left h1, Int.max_eq_left (by omega)]
set_option maxHeartbeats 4000000 in
theorem gap_any (w : World) (k ba bb : Nat) (la lb : List En) (hA : Nd w k ba la) (hB : Nd w k bb lb) (k1 : 1 ≤ k) (k16 : k ≤ 16) :
    Calls Try.prog 27 #[.pointer (some ⟨ba, 0, none⟩), .pointer (some ⟨bb, 0, none⟩)] w fun e w' => e = .returned (.int .u64 (gapL la lb : Nat)) ∧ Below w.heap.size w w' := by
  obtain ⟨va, kpa, hha⟩ := hA.hd
  obtain ⟨vb, kpb, hhb⟩ := hB.hd
  obtain ⟨pa1, pa2, pa3⟩ := hA.pre_ok
  obtain ⟨pb1, pb2, pb3⟩ := hB.pre_ok
  obtain ⟨ua, ca, hua⟩ := hha.c1
  obtain ⟨ub, cb, hub⟩ := hhb.c1
  have HPA := Lib.hid (fun W (h : Below w.heap.size w W) => npref_any W ba (preL la) _ (Below.keeps h _ _ ca) (hua.below h) (by rw [pa1]; exact k1) (by rw [pa1]; exact k16))
  have HPB := Lib.hid (fun W (h : Below w.heap.size w W) => npref_any W bb (preL lb) _ (Below.keeps h _ _ cb) (hub.below h) (by rw [pb1]; exact k1) (by rw [pb1]; exact k16))
  have HLA := Lib.hid (fun W (h : Below w.heap.size w W) => nlev_any W ba _ (Below.keeps h _ _ hha.c0))
  have HLB := Lib.hid (fun W (h : Below w.heap.size w W) => nlev_any W bb _ (Below.keeps h _ _ hhb.c0))
  have HCA := Lib.hid (fun W v (hv : RdU W v (pti (preL la))) => boxCell_any W (preL la) (lev la) v hv (by rw [pa1]; exact k1) (by rw [pa1]; exact k16) pa2 (lev_le la))
  have HCB := Lib.hid (fun W v (hv : RdU W v (pti (preL lb))) => boxCell_any W (preL lb) (lev lb) v hv (by rw [pb1]; exact k1) (by rw [pb1]; exact k16) pb2 (lev_le lb))
  have hgap : gapL la lb = (glL (lev la) (lev lb) (preL la) (preL lb)).foldl max 0 := rfl
  have HOK := Lib.hid (And.intro pa1 (And.intro pb1 (And.intro pa2 pb2)))
  have HCT := Lib.hid (And.intro pa3 pb3)
  have HLL := Lib.hid (And.intro (lev_le la) (lev_le lb))
  have HK := Lib.hid k16
  rw [hgap]
  clear hA hB hha hhb pa1 pa2 pa3 pb1 pb2 pb3 ca cb hua hub k1 k16 hgap
  generalize preL la = pa at *
  generalize preL lb = pb at *
  generalize lev la = ma at *
  generalize lev lb = mb at *
  go_enter Try.func27, Try.ntmps27
  go_wp2_with fail
  refine (HPA.out _ (Below.refl _ _)).mono ?_
  rintro e w1 ⟨u1, rfl, hu1, hb1⟩
  have HB1 := Lib.hid hb1
  have HU1 := Lib.hid hu1
  obtain ⟨A1, c1, rfl, _⟩ := RdU.point hu1.rd
  clear hu1 hb1
  go_wp2_with fail
  refine (HLA.out _ HB1.out).mono ?_
  rintro e w2 ⟨rfl, hw⟩
  obtain rfl := hw.symm
  clear hw
  go_wp2_with fail
  refine (HCA.out w1 _ HU1.out.rd).mono ?_
  rintro e w2 ⟨g1, h1, rfl, hg1, hh1, hb2⟩
  have HB2 := Lib.hid (HB1.out.trans (hb2.mono HB1.out.size))
  rw [HCT.out.1] at hg1
  unfold hiL at hh1
  rw [HCT.out.1] at hh1
  rw [HOK.out.1] at hg1 hh1 ⊢
  have HX := Lib.hid (show BoxR (w2.alloc (.cells #[.slice (some ⟨g1, 0, none⟩) k k, .slice (some ⟨h1, 0, none⟩) k k] 97)) k pa ma w2.heap.size from ⟨g1, h1, alloc_blk _ _, hg1.below (by repeat (first | exact Below.refl _ _ | (refine Below.drew ?_) | (refine below_drewN' ?_ _) | (refine below_alloc' ?_ _) | (refine Below.setCell ?_ (by first | exact Nat.le_refl _ | (simp; done) | (simp; omega)) _))), hh1.below (by repeat (first | exact Below.refl _ _ | (refine Below.drew ?_) | (refine below_drewN' ?_ _) | (refine below_alloc' ?_ _) | (refine Below.setCell ?_ (by first | exact Nat.le_refl _ | (simp; done) | (simp; omega)) _)))⟩)
  clear hg1 hh1 hb2
  go_wp2_with fail
  refine (HPB.out _ (below_alloc' HB2.out _)).mono ?_
  rintro e w3 ⟨u3, rfl, hu3, hb3⟩
  have HB3 := Lib.hid ((below_alloc' HB2.out _).trans (hb3.mono (below_alloc' HB2.out _).size))
  have HX3 := Lib.hid (HX.out.below hb3)
  have HU3 := Lib.hid hu3
  obtain ⟨A3, c3, rfl, _⟩ := RdU.point hu3.rd
  clear hu3 hb3
  go_wp2_with fail
  refine (HLB.out _ HB3.out).mono ?_
  rintro e w4 ⟨rfl, hw⟩
  obtain rfl := hw.symm
  clear hw
  go_wp2_with fail
  refine (HCB.out w3 _ HU3.out.rd).mono ?_
  rintro e w4 ⟨g2, h2, rfl, hg2, hh2, hb4⟩
  have HB4 := Lib.hid (HB3.out.trans (hb4.mono HB3.out.size))
  have HX4 := Lib.hid (HX3.out.below hb4)
  rw [HCT.out.2] at hg2
  unfold hiL at hh2
  rw [HCT.out.2] at hh2
  rw [HOK.out.2.1] at hg2 hh2 ⊢
  have HB5 := Lib.hid (show Below w.heap.size w (w4.alloc (.cells #[.slice (some ⟨g2, 0, none⟩) k k, .slice (some ⟨h2, 0, none⟩) k k] 97)) from below_alloc' HB4.out _)
  have HX5 := Lib.hid (show BoxR (w4.alloc (.cells #[.slice (some ⟨g2, 0, none⟩) k k, .slice (some ⟨h2, 0, none⟩) k k] 97)) k pa ma w2.heap.size from HX4.out.below (by repeat (first | exact Below.refl _ _ | (refine Below.drew ?_) | (refine below_drewN' ?_ _) | (refine below_alloc' ?_ _) | (refine Below.setCell ?_ (by first | exact Nat.le_refl _ | (simp; done) | (simp; omega)) _))))
  have HY5 := Lib.hid (show BoxR (w4.alloc (.cells #[.slice (some ⟨g2, 0, none⟩) k k, .slice (some ⟨h2, 0, none⟩) k k] 97)) k pb mb w4.heap.size from ⟨g2, h2, alloc_blk _ _, hg2.below (by repeat (first | exact Below.refl _ _ | (refine Below.drew ?_) | (refine below_drewN' ?_ _) | (refine below_alloc' ?_ _) | (refine Below.setCell ?_ (by first | exact Nat.le_refl _ | (simp; done) | (simp; omega)) _))), hh2.below (by repeat (first | exact Below.refl _ _ | (refine Below.drew ?_) | (refine below_drewN' ?_ _) | (refine below_alloc' ?_ _) | (refine Below.setCell ?_ (by first | exact Nat.le_refl _ | (simp; done) | (simp; omega)) _)))⟩)
  obtain ⟨gx, hx, x1, x2, x3⟩ := HX4.out
  obtain ⟨X, hXe⟩ : ∃ x, w2.heap.size = x := ⟨_, rfl⟩
  rw [hXe] at x1 HX5 ⊢
  have xc : w4.cell? ⟨X, 0, none⟩ = some (.slice (some ⟨gx, 0, none⟩) k k) := by simp [World.cell?, x1]
  have xl := lt_of_block x1
  have HGL := Lib.hid (show (glL ma mb pa pb).length = k by unfold glL; rw [List.length_zipWith, HOK.out.1, HOK.out.2.1]; omega)
  clear hg2 hh2 hb4 x1 x2 x3 hXe
  go_wp2_with fail
  obtain ⟨Y, hYe⟩ : ∃ x, w4.heap.size = x := ⟨_, rfl⟩
  rw [hYe] at HY5 ⊢
  go_loopw [9, 10, 30] (fun fv _ iv wr => ∃ j : Nat, j ≤ k ∧ iv = .int .i64 (j : Nat) ∧ fv = .int .u64 (((glL ma mb pa pb).take j).foldl max 0 : Nat) ∧ BoxR wr k pa ma X ∧ BoxR wr k pb mb Y ∧ Below w.heap.size w wr) (fun _ _ iv _ => k - (intOf iv).toNat)
  case atStart => exact ⟨0, Nat.zero_le _, rfl, rfl, HX5.out.below (by repeat (first | exact Below.refl _ _ | (refine Below.drew ?_) | (refine below_drewN' ?_ _) | (refine below_alloc' ?_ _) | (refine Below.setCell ?_ (by first | exact Nat.le_refl _ | (simp; done) | (simp; omega)) _))), HY5.out.below (by repeat (first | exact Below.refl _ _ | (refine Below.drew ?_) | (refine below_drewN' ?_ _) | (refine below_alloc' ?_ _) | (refine Below.setCell ?_ (by first | exact Nat.le_refl _ | (simp; done) | (simp; omega)) _))), below_trans HB5.out (by repeat (first | exact Below.refl _ _ | (refine Below.drew ?_) | (refine below_drewN' ?_ _) | (refine below_alloc' ?_ _) | (refine Below.setCell ?_ (by first | exact Nat.le_refl _ | (simp; done) | (simp; omega)) _)))⟩
  case round =>
    obtain ⟨j, hj, rfl, rfl, hX, hY, hb⟩ := hrel
    have HI := Lib.hid (And.intro hj (And.intro hX (And.intro hY hb)))
    by_cases hlt : j < k
    · have h3 : (j : Int) < (k : Int) := by omega
      have h5 : (0 : Int) ≤ (j : Int) := by omega
      have HW := Lib.hid (show wrap64 ((j : Int) + 1) = ((j + 1 : Nat) : Int) by have := HK.out; unfold wrap64; omega)
      have ja : j < pa.length := by rw [HOK.out.1]; exact hlt
      have jb : j < pb.length := by rw [HOK.out.2.1]; exact hlt
      have HTK := Lib.hid (show ((glL ma mb pa pb).take (j + 1)).foldl max 0 = max (((glL ma mb pa pb).take j).foldl max 0) (cg pa[j] (pa[j] + (2 ^ ma - 1)) pb[j] (pb[j] + (2 ^ mb - 1))) by
        rw [gl_take _ _ (by rw [HGL.out]; exact hlt)]
        congr 1
        unfold glL
        rw [List.getElem_zipWith])
      obtain ⟨gx, hx, x1, x2, x3⟩ := hX
      obtain ⟨gy, hy, y1, y2, y3⟩ := hY
      have a0 := RdU.nth x2 j ja
      have a1 := RdU.nth x3 j (by rw [List.length_map]; exact ja)
      have b0 := RdU.nth y2 j jb
      have b1 := RdU.nth y3 j (by rw [List.length_map]; exact jb)
      rw [List.getElem_map] at a1 b1
      have c0 : wr.cell? ⟨X, 0, none⟩ = some (.slice (some ⟨gx, 0, none⟩) k k) := by simp [World.cell?, x1]
      have c1 : wr.cell? ⟨X, 1, none⟩ = some (.slice (some ⟨hx, 0, none⟩) k k) := by simp [World.cell?, x1]
      have d0 : wr.cell? ⟨Y, 0, none⟩ = some (.slice (some ⟨gy, 0, none⟩) k k) := by simp [World.cell?, y1]
      have d1 : wr.cell? ⟨Y, 1, none⟩ = some (.slice (some ⟨hy, 0, none⟩) k k) := by simp [World.cell?, y1]
      have l1 := lt_of_block x1
      have l2 := lt_of_block y1
      have l3 := World.block_lt_of_cell? wr _ a0
      have l4 := World.block_lt_of_cell? wr _ a1
      have l5 := World.block_lt_of_cell? wr _ b0
      have l6 := World.block_lt_of_cell? wr _ b1
      have ra : pa[j] < 2 ^ 64 ∧ pb[j] < 2 ^ 64 := ⟨HOK.out.2.2.1 _ (List.getElem_mem ja), HOK.out.2.2.2 _ (List.getElem_mem jb)⟩
      generalize pa[j] = xl0 at *
      generalize pb[j] = yl0 at *
      generalize xl0 + (2 ^ ma - 1) = xh0 at *
      generalize yl0 + (2 ^ mb - 1) = yh0 at *
      generalize ((glL ma mb pa pb).take j).foldl max 0 = f0 at *
      have HRA := Lib.hid ra
      clear hb x1 x2 x3 y1 y2 y3 ja jb ra hj
      by_cases c1' : xh0 < yl0
      · have i1 : (xh0 : Int) < (yl0 : Int) := by omega
        have HCG := Lib.hid (show cg xl0 xh0 yl0 yh0 = yl0 - xh0 by unfold cg; rw [if_pos c1'])
        go_wp2_with fail
        go_quiet (fail)
        go_wp2_with fail
        go_quiet (fail)
        go_wp2_with fail
        go_roundw
        case rel => exact ⟨j + 1, by have := hlt; omega, (by first | rw [HW.out] | rfl | simp), by rw [HTK.out, HCG.out]; exact max_val (by have := HRA.out; omega) (by have := HRA.out; omega), HI.out.2.1.below (by repeat (first | exact Below.refl _ _ | (refine Below.drew ?_) | (refine below_drewN' ?_ _) | (refine below_alloc' ?_ _) | (refine Below.setCell ?_ (by first | exact Nat.le_refl _ | (simp; done) | (simp; omega)) _))), HI.out.2.2.1.below (by repeat (first | exact Below.refl _ _ | (refine Below.drew ?_) | (refine below_drewN' ?_ _) | (refine below_alloc' ?_ _) | (refine Below.setCell ?_ (by first | exact Nat.le_refl _ | (simp; done) | (simp; omega)) _))), below_trans HI.out.2.2.2 (by repeat (first | exact Below.refl _ _ | (refine Below.drew ?_) | (refine below_drewN' ?_ _) | (refine below_alloc' ?_ _) | (refine Below.setCell ?_ (by first | exact Nat.le_refl _ | (simp; done) | (simp; omega)) _)))⟩
        case measure => (first | (rw [intOf_of' HW.out, intOf_of' rfl]; omega) | (simp [intOf]; omega) | (simp [intOf] <;> omega))
      · have i1 : ¬ (xh0 : Int) < (yl0 : Int) := by omega
        by_cases c2' : yh0 < xl0
        · have i2 : (yh0 : Int) < (xl0 : Int) := by omega
          have HCG := Lib.hid (show cg xl0 xh0 yl0 yh0 = xl0 - yh0 by unfold cg; rw [if_neg c1', if_pos c2'])
          go_wp2_with fail
          go_quiet (fail)
          go_wp2_with fail
          go_quiet (fail)
          go_wp2_with fail
          go_quiet (fail)
          go_wp2_with fail
          go_roundw
          case rel => exact ⟨j + 1, by have := hlt; omega, (by first | rw [HW.out] | rfl | simp), by rw [HTK.out, HCG.out]; exact max_val (by have := HRA.out; omega) (by have := HRA.out; omega), HI.out.2.1.below (by repeat (first | exact Below.refl _ _ | (refine Below.drew ?_) | (refine below_drewN' ?_ _) | (refine below_alloc' ?_ _) | (refine Below.setCell ?_ (by first | exact Nat.le_refl _ | (simp; done) | (simp; omega)) _))), HI.out.2.2.1.below (by repeat (first | exact Below.refl _ _ | (refine Below.drew ?_) | (refine below_drewN' ?_ _) | (refine below_alloc' ?_ _) | (refine Below.setCell ?_ (by first | exact Nat.le_refl _ | (simp; done) | (simp; omega)) _))), below_trans HI.out.2.2.2 (by repeat (first | exact Below.refl _ _ | (refine Below.drew ?_) | (refine below_drewN' ?_ _) | (refine below_alloc' ?_ _) | (refine Below.setCell ?_ (by first | exact Nat.le_refl _ | (simp; done) | (simp; omega)) _)))⟩
          case measure => (first | (rw [intOf_of' HW.out, intOf_of' rfl]; omega) | (simp [intOf]; omega) | (simp [intOf] <;> omega))
        · have i2 : ¬ (yh0 : Int) < (xl0 : Int) := by omega
          have HCG := Lib.hid (show cg xl0 xh0 yl0 yh0 = 0 by unfold cg; rw [if_neg c1', if_neg c2'])
          go_wp2_with fail
          go_quiet (fail)
          go_wp2_with fail
          go_quiet (fail)
          go_wp2_with fail
          go_roundw
          case rel => exact ⟨j + 1, by have := hlt; omega, (by first | rw [HW.out] | rfl | simp), by rw [HTK.out, HCG.out, Nat.max_zero], HI.out.2.1.below (by repeat (first | exact Below.refl _ _ | (refine Below.drew ?_) | (refine below_drewN' ?_ _) | (refine below_alloc' ?_ _) | (refine Below.setCell ?_ (by first | exact Nat.le_refl _ | (simp; done) | (simp; omega)) _))), HI.out.2.2.1.below (by repeat (first | exact Below.refl _ _ | (refine Below.drew ?_) | (refine below_drewN' ?_ _) | (refine below_alloc' ?_ _) | (refine Below.setCell ?_ (by first | exact Nat.le_refl _ | (simp; done) | (simp; omega)) _))), below_trans HI.out.2.2.2 (by repeat (first | exact Below.refl _ _ | (refine Below.drew ?_) | (refine below_drewN' ?_ _) | (refine below_alloc' ?_ _) | (refine Below.setCell ?_ (by first | exact Nat.le_refl _ | (simp; done) | (simp; omega)) _)))⟩
          case measure => (first | (rw [intOf_of' HW.out, intOf_of' rfl]; omega) | (simp [intOf]; omega) | (simp [intOf] <;> omega))
    · have h3 : ¬ (j : Int) < (k : Int) := by omega
      obtain rfl : j = k := by omega
      have e : (glL ma mb pa pb).take j = glL ma mb pa pb := List.take_of_length_le (by rw [HGL.out]; exact Nat.le_refl _)
      rw [e]
      clear hX hY hb
      go_wp2_with fail
      go_ret
      exact ⟨rfl, HI.out.2.2.2⟩
end Go.Proofs.Ytdkomhmciihkiaa
/-! WlkP -/
namespace Go.Proofs.Ytdkomhmciihkiaa
open Go.RowKit
set_option linter.unusedVariables false

theorem fromI_zero (l : List (Nat × Nat)) : fromI l 0 = l[0]? := by
  unfold fromI
  cases l with
  | nil => rfl
  | cons x l => simp
theorem fromI_skip {x : Nat × Nat} {l : List (Nat × Nat)} {a : Int} (h : (x.1 : Int) < a) : fromI (x :: l) a = fromI l a := by
  unfold fromI
  rw [List.find?_cons_of_neg]
  simp; omega
theorem fromI_hit {x : Nat × Nat} {l : List (Nat × Nat)} {a : Int} (h : a ≤ (x.1 : Int)) : fromI (x :: l) a = some x := by
  unfold fromI
  rw [List.find?_cons_of_pos]
  simpa using h
theorem fromI_next {l : List (Nat × Nat)} (h : Od.Asc ka l) (j : Nat) (hj : j < l.length) : fromI l (((l[j].1 : Nat) : Int) + 1) = l[j + 1]? := by
  induction l generalizing j with
  | nil => simp at hj
  | cons x l ih =>
    cases j with
    | zero =>
      rw [List.getElem_cons_zero, fromI_skip (by omega)]
      cases l with
      | nil => rfl
      | cons y l =>
        have : x.1 < y.1 := h.head y (List.mem_cons_self ..)
        rw [fromI_hit (by omega)]
        rfl
    | succ j =>
      have hj' : j < l.length := by simpa using hj
      have : x.1 < l[j].1 := h.head _ (List.getElem_mem hj')
      rw [List.getElem_cons_succ, fromI_skip (by omega), ih h.tail j hj']
      rfl
/-- what From hands back: the address, the kid -/
def frA (o : Option (Nat × Nat)) : Value := match o with | some x => .int .i64 (x.1 : Nat) | none => .int .i64 0
def frK (o : Option (Nat × Nat)) : Value := match o with | some x => pv (some x.2) | none => .pointer none
theorem frA_some (x : Nat × Nat) : frA (some x) = .int .i64 (x.1 : Nat) := rfl
theorem frK_some (x : Nat × Nat) : frK (some x) = .pointer (some ⟨x.2, 0, none⟩) := rfl
theorem frA_none : frA none = .int .i64 0 := rfl
theorem frK_none : frK none = .pointer none := rfl
theorem nfromV_eq (o : Option (Nat × Nat)) : nfromV o = .tuple #[frA o, frK o] := by cases o <;> rfl
def frO (ks : List (Nat × Nat × List En)) (j : Nat) : Option (Nat × Nat) := (ks.map kb)[j]?
theorem frO_some {ks : List (Nat × Nat × List En)} {j : Nat} (h : j < ks.length) : frO ks j = some (ks[j].1, ks[j].2.1) := by
  unfold frO; rw [List.getElem?_map, List.getElem?_eq_getElem h]; rfl
theorem frO_none {ks : List (Nat × Nat × List En)} {j : Nat} (h : ¬ j < ks.length) : frO ks j = none := by
  unfold frO; rw [List.getElem?_map, List.getElem?_eq_none (by omega)]; rfl
/-- how far there is to go -/
def kmu (a k : Value) : Nat := match k with | .pointer none => 0 | _ => 65537 - (intOf a).toNat
theorem kmu_some (x b : Nat) : kmu (.int .i64 (x : Nat)) (.pointer (some ⟨b, 0, none⟩)) = 65537 - x := by
  show 65537 - (intOf (.int .i64 (x : Nat))).toNat = _
  rw [intOf_nat, Int.toNat_natCast]
/-- From, kid by kid -/
structure FromK (w : World) (b : Nat) (ks : List (Nat × Nat × List En)) : Prop where
  zero : ∀ w', Below w.heap.size w w' → Calls Try.prog 48 #[.pointer (some ⟨b, 0, none⟩), .int .i64 0] w' fun e w'' => e = .returned (.tuple #[frA (frO ks 0), frK (frO ks 0)]) ∧ Below w'.heap.size w' w''
  next : ∀ j (hj : j < ks.length) w', Below w.heap.size w w' → Calls Try.prog 48 #[.pointer (some ⟨b, 0, none⟩), .int .i64 (((ks[j].1 : Nat) : Int) + 1)] w' fun e w'' => e = .returned (.tuple #[frA (frO ks (j + 1)), frK (frO ks (j + 1))]) ∧ Below w'.heap.size w' w''
  lt : ∀ j (hj : j < ks.length), ks[j].1 < 65536
  mu : ∀ j (hj : j < ks.length), kmu (frA (frO ks (j + 1))) (frK (frO ks (j + 1))) < kmu (frA (frO ks j)) (frK (frO ks j))
theorem FromK.of {w : World} {b s k : Nat} {ks : List (Nat × Nat × List En)} (c3 : w.cell? ⟨b, 3, none⟩ = some (.pointer (some ⟨s, 0, none⟩))) (hs : SlR w s k (ks.map kb)) : FromK w b ks := by
  have hasc := hs.rw'.asc
  have hlt : ∀ j (hj : j < ks.length), ks[j].1 < 65536 := fun j hj => by
    have h1 := hs.rw'.lt (kb ks[j]) (List.mem_map_of_mem (List.getElem_mem hj))
    have h2 := pow_le k hs.k16
    have : (kb ks[j]).1 = ks[j].1 := rfl
    omega
  refine ⟨fun w' hb => ?_, fun j hj w' hb => ?_, hlt, fun j hj => ?_⟩
  · have := nfrom_any w' b s k (ks.map kb) 0 (Below.keeps hb _ _ c3) (hs.below hb)
    rw [nfromV_eq, fromI_zero] at this
    exact this
  · have := nfrom_any w' b s k (ks.map kb) (((ks[j].1 : Nat) : Int) + 1) (Below.keeps hb _ _ c3) (hs.below hb)
    have h2 := fromI_next hasc j (by rw [List.length_map]; exact hj)
    rw [List.getElem_map] at h2
    rw [nfromV_eq, show ((ks[j].1 : Nat) : Int) = (((kb ks[j]).1 : Nat) : Int) from rfl, h2] at this
    exact this
  · rw [frO_some hj]
    by_cases h : j + 1 < ks.length
    · rw [frO_some h]
      have h1 : ((ks.map kb)[j]'(by simpa using hj)).1 < ((ks.map kb)[j + 1]'(by simpa using h)).1 := List.pairwise_iff_getElem.1 hasc j (j + 1) (by simpa using hj) (by simpa using h) (by omega)
      rw [List.getElem_map, List.getElem_map] at h1
      have h1 : ks[j].1 < ks[j + 1].1 := h1
      have h2 := hlt _ h
      show kmu (.int .i64 (ks[j + 1].1 : Nat)) (.pointer (some ⟨ks[j + 1].2.1, 0, none⟩)) < kmu (.int .i64 (ks[j].1 : Nat)) (.pointer (some ⟨ks[j].2.1, 0, none⟩))
      rw [kmu_some, kmu_some]
      omega
    · rw [frO_none h]
      have h2 := hlt _ hj
      show 0 < kmu (.int .i64 (ks[j].1 : Nat)) (.pointer (some ⟨ks[j].2.1, 0, none⟩))
      rw [kmu_some]
      omega
theorem FromK.bel {w w1 : World} {b : Nat} {ks : List (Nat × Nat × List En)} (h : FromK w b ks) (hb : Below w.heap.size w w1) : FromK w1 b ks :=
  ⟨fun w' hb2 => h.zero w' (hb.trans (hb2.mono hb.size)), fun j hj w' hb2 => h.next j hj w' (hb.trans (hb2.mono hb.size)), h.lt, h.mu⟩
end Go.Proofs.Ytdkomhmciihkiaa
