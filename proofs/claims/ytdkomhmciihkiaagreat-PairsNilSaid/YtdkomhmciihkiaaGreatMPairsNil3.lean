/-
  Texts that the proof of PairsNil leans on, part 3: contracts of functions, and plain laws.
-/
import Derived.Test.YtdkomhmciihkiaaGreatMPairsNil2
import Derived.ScopeJumps
import Derived.OwnWalk
import Derived.LaidEqlPtr
/-! BoxC -/
namespace Go.Proofs.YtdkomhmciihkiaaGreat
open Go.RowKit
set_option linter.unusedVariables false
set_option linter.unusedSimpArgs false
set_option maxRecDepth 100000

def hiL (p : List Nat) (m : Nat) : List Nat := (Zb.cutN p m).map fun c => c + (2 ^ m - 1)
theorem or_low (c m : Nat) (hc : c < 2 ^ 64) (hm : m ≤ 64) : bits .or .u64 ((c / 2 ^ m * 2 ^ m : Nat) : Int) ((2 ^ m - 1 : Nat) : Int) = ((c / 2 ^ m * 2 ^ m + (2 ^ m - 1) : Nat) : Int) := by
  have h1 := (cut_le c m).1
  have h2 := Nat.two_pow_pos m
  have h3 : 2 ^ m ≤ 2 ^ 64 := Nat.pow_le_pow_right (by omega) hm
  rw [bits_or_u64_nat _ _ (by omega) (by omega)]
  congr 1
  have := Nat.two_pow_add_eq_or_of_lt (i := m) (b := 2 ^ m - 1) (by omega) (c / 2 ^ m)
  rw [Nat.mul_comm] at this
  exact this.symm
theorem pti_length9 (p : List Nat) : (pti p).length = p.length := by unfold pti; rw [List.length_map]
set_option maxHeartbeats 1000000 in
theorem cell1_any (w : World) (lb wb i n c : Nat) (A : Option Addr) (p : List Nat) (x low y : Int) (hl : w.cell? ⟨lb, 0, none⟩ = some (.slice A n c)) (hw : w.cell? ⟨wb, 0, none⟩ = some (.int .u64 low)) (hr : RdU w (.slice A n c) (pti p)) (hn : n = p.length) (hi : i < p.length) (hx : x = (p[i] : Nat)) (hy : bits .or .u64 x low = y) :
    Calls Tryz.prog 230 #[.int .i64 (i : Nat), .pointer (some ⟨lb, 0, none⟩), .pointer (some ⟨wb, 0, none⟩)] w fun e w' => e = .returned (.tuple #[.int .u64 x, .int .u64 y]) ∧ ∃ m, w' = w.drewN m := by
  obtain ⟨A', c', e', hc0⟩ := hr.slice
  rw [pti_length9] at e'
  simp only [Value.slice.injEq] at e'
  obtain ⟨rfl, _, rfl⟩ := e'
  obtain ⟨b, o, rfl, hc⟩ := hc0 (by rw [pti_length9]; omega)
  have k0 := hc i (by rw [pti_length9]; exact hi)
  simp only [pti, List.getElem_map] at k0
  rw [← hx] at k0
  have h3 : (i : Int) < (n : Int) := by omega
  have h5 : (0 : Int) ≤ (i : Int) := by omega
  have l1 := World.block_lt_of_cell? w _ hl
  have l2 := World.block_lt_of_cell? w _ hw
  have l3 := World.block_lt_of_cell? w _ k0
  have HY := Lib.hid hy
  clear hc hc0 hr hi hx hn hy
  go_enter Tryz.func230, Tryz.ntmps230
  go_wp2_with fail
  go_quiet (fail)
  go_wp2_with fail
  refine bodyPost_ret (v := .tuple #[.int .u64 x, .int .u64 (bits .or .u64 x low)]) (by simp [results, Tryz.results230, go_sem]) rfl ?_
  exact ⟨by rw [HY.out], _, rfl⟩
theorem enters_box {P : Program} {f : FuncId} {fn : Func} (hf : P.funcs[f]? = some fn) (hname : (fn.name == "runtime.NumGoroutine") = false) (hb : fn.body.isSome = true) (args : Array Value) (w : World) :
    (callFunc f args).run P w = .ok (.enter f args) w := by
  have h1 : fn.name ≠ "runtime.NumGoroutine" := by simpa using hname
  obtain ⟨c, hc⟩ := Option.isSome_iff_exists.1 hb
  simp [callFunc, hf, h1, hc]
/-- what box.Cell hands back -/
def CellP (W : World) (p : List Nat) (m : Nat) (e : Ending) (w' : World) : Prop := ∃ g h, e = .returned (.tuple #[.agg #[.slice (some ⟨g, 0, none⟩) p.length p.length, .slice (some ⟨h, 0, none⟩) p.length p.length], .int .i64 0]) ∧ PtNew w' (.slice (some ⟨g, 0, none⟩) p.length p.length) (Zb.cutN p m) ∧ PtNew w' (.slice (some ⟨h, 0, none⟩) p.length p.length) (hiL p m) ∧ Below W.heap.size W w'
theorem shl_low (m : Nat) (hm : m ≤ 64) : IntKind.u64.wrap (IntKind.u64.wrap ((1 : Int) * (2 : Int) ^ m) - 1) = ((2 ^ m - 1 : Nat) : Int) := by
  have h2 := Nat.two_pow_pos m
  have h3 : 2 ^ m ≤ 2 ^ 64 := Nat.pow_le_pow_right (by omega) hm
  rw [show ((2 : Int) ^ m) = ((2 ^ m : Nat) : Int) from (Int.natCast_pow 2 m).symm, IntKind.wrap_u64, IntKind.wrap_u64]
  generalize 2 ^ m = P at *
  omega
set_option maxHeartbeats 2000000 in
theorem boxCell_any (w : World) (p : List Nat) (m : Nat) (v : Value) (hv : RdU w v (pti p)) (h1 : 1 ≤ p.length) (h16 : p.length ≤ 16) (hp : ∀ c ∈ p, c < 2 ^ 64) (hm : m ≤ 64) :
    Calls Tryz.prog 177 #[v, .int .i64 ((m : Int) - 1)] w fun e w' => CellP w p m e w' := by
  have hmf : ∀ (fn : Fn) (first cap : Array Value) (w : World), (Instr.makeFunc fn first cap).run Tryz.prog w = .ok (.func fn first cap) w := fun _ _ _ _ => rfl
  have HCUT := Lib.hid (fun W (hb : Below w.heap.size w W) => zCut_lev p m v W (hv.below hb) h1 h16 hp hm)
  have HD := Lib.hid (And.intro h1 (And.intro h16 (And.intro hp hm)))
  obtain ⟨A, c, rfl, _⟩ := RdU.point hv
  obtain ⟨lv, hlv⟩ : ∃ z, (m : Int) - 1 = z := ⟨_, rfl⟩
  rw [hlv] at HCUT ⊢
  have HLV := Lib.hid (show wrap64 (lv + 1) = (m : Int) by rw [← hlv]; unfold wrap64; omega)
  have hw1 : wrap64 (lv + 1) = (m : Int) := HLV.out
  have hm0 : ¬ (m : Int) < 0 := by omega
  clear hv h1 h16 hp hm hlv
  go_enter Tryz.func177, Tryz.ntmps177
  go_wp2_with fail
  refine (HCUT.out _ (by repeat (first | exact Below.refl _ _ | (refine Below.drew ?_) | (refine below_drewN' ?_ _) | (refine below_alloc' ?_ _) | (refine Below.setCell ?_ (by first | exact Nat.le_refl _ | (simp; done) | (simp; omega)) _)))).mono ?_
  rintro e w1 ⟨u, rfl, hu, hb1⟩
  have HB1 := Lib.hid (show Below w.heap.size w w1 from below_trans (by repeat (first | exact Below.refl _ _ | (refine Below.drew ?_) | (refine below_drewN' ?_ _) | (refine below_alloc' ?_ _) | (refine Below.setCell ?_ (by first | exact Nat.le_refl _ | (simp; done) | (simp; omega)) _))) hb1)
  have HU := Lib.hid hu
  have HRES := Lib.hid (show w1.heap[w.heap.size]? = some (.cells #[.slice none 0 0, .slice none 0 0] 274 (0, 0)) from (hb1.block _ (by simp)).trans (alloc_blk _ _))
  obtain ⟨A2, c2, rfl, _⟩ := RdU.point hu.rd
  rw [Zb.cutN_length]
  clear hu hb1
  go_wp2_with fail
  have hlow : IntKind.u64.wrap (IntKind.u64.wrap (2 ^ min m 64) - 1) = ((2 ^ m - 1 : Nat) : Int) := by
    have := shl_low m HD.out.2.2.2
    rw [Int.one_mul] at this
    rw [Nat.min_eq_left HD.out.2.2.2]
    exact this
  rw [hlow]
  obtain ⟨w2, hw2⟩ : ∃ x, (w1.alloc (Obj.cells #[Value.slice A2 p.length c2] 33)).alloc (Obj.cells #[Value.int IntKind.u64 ((2 ^ m - 1 : Nat) : Int)] 22) = x := ⟨_, rfl⟩
  have HB12 := Lib.hid (show Below w1.heap.size w1 w2 from by rw [← hw2]; exact (by repeat (first | exact Below.refl _ _ | (refine Below.drew ?_) | (refine below_drewN' ?_ _) | (refine below_alloc' ?_ _) | (refine Below.setCell ?_ (by first | exact Nat.le_refl _ | (simp; done) | (simp; omega)) _))))
  have HC1 := Lib.hid (show w2.cell? ⟨w1.heap.size, 0, none⟩ = some (.slice A2 p.length c2) by rw [← hw2]; simp [go_sem])
  have HC2 := Lib.hid (show w2.cell? ⟨w1.heap.size + 1, 0, none⟩ = some (.int .u64 ((2 ^ m - 1 : Nat) : Int)) by rw [← hw2]; simp [go_sem])
  have hu2 := HU.out.rd.below HB12.out
  rw [Zb.cutN_length] at hu2
  have HU2 := Lib.hid hu2
  clear hu2
  rw [hw2]
  refine (boxEach_any w2 p.length (Zb.cutN p m) (hiL p m) 230 #[.pointer (some ⟨w1.heap.size, 0, none⟩), .pointer (some ⟨w1.heap.size + 1, 0, none⟩)] (Zb.cutN_length _ _) (by unfold hiL; rw [List.length_map, Zb.cutN_length]) HD.out.2.1 (fun args w => enters_box (fn := Tryz.f230) (by kernel_rfl) (by kernel_rfl) (by kernel_rfl) args w) (fun i hi1 hi2 W hb => ?_)).mono ?_
  · have hi3 : i < p.length := by rw [Zb.cutN_length] at hi1; exact hi1
    have e1 : (Zb.cutN p m)[i] = p[i] / 2 ^ m * 2 ^ m := by simp only [Zb.cutN, List.getElem_map]
    refine cell1_any W w1.heap.size (w1.heap.size + 1) i p.length c2 A2 (Zb.cutN p m) _ _ _ (Below.keeps hb _ _ HC1.out) (Below.keeps hb _ _ HC2.out) (HU2.out.below hb) (Zb.cutN_length _ _).symm hi1 rfl ?_
    have e2 : (hiL p m)[i] = p[i] / 2 ^ m * 2 ^ m + (2 ^ m - 1) := by simp only [hiL, List.getElem_map, e1]
    rw [e2, e1]
    exact or_low _ _ (HD.out.2.2.1 _ (List.getElem_mem hi3)) HD.out.2.2.2
  rintro e w3 ⟨g, h, rfl, hg, hh, hb3⟩
  rw [Zb.cutN_length] at hg ⊢
  rw [show (hiL p m).length = p.length by unfold hiL; rw [List.length_map, Zb.cutN_length]] at hh ⊢
  have hb13 := HB12.out.trans (hb3.mono HB12.out.size)
  have hrs : w3.heap[w.heap.size]? = _ := (hb13.block _ (lt_of_block HRES.out)).trans HRES.out
  have HB3 := Lib.hid (HB1.out.trans (hb13.mono HB1.out.size))
  have HP := Lib.hid (And.intro hg hh)
  have r0 : w3.cell? ⟨w.heap.size, 0, none⟩ = some (.slice none 0 0) := by simp [World.cell?, hrs]
  have r1 : w3.cell? ⟨w.heap.size, 1, none⟩ = some (.slice none 0 0) := by simp [World.cell?, hrs]
  have r2 : w3.frozen? ⟨w.heap.size, 0, none⟩ = false := by simp [World.frozen?, hrs]
  have r3 : w3.frozen? ⟨w.heap.size, 1, none⟩ = false := by simp [World.frozen?, hrs]
  have hrl := lt_of_block hrs
  have HRS := Lib.hid hrs
  clear hg hh hb3 hb13 hrs hw2 hlow
  go_wp2_with fail
  refine bodyPost_ret (v := .tuple #[.agg #[.slice (some ⟨g, 0, none⟩) p.length p.length, .slice (some ⟨h, 0, none⟩) p.length p.length], .int .i64 0]) (by simp [results, Tryz.results177, go_sem, r0, r1, r2, r3, hrl]) rfl ?_
  refine ⟨g, h, rfl, ?_, ?_, (HB3.out.setCell (Nat.le_refl _) _).setCell (Nat.le_refl _) _⟩
  · exact ((HP.out.1.keepBlock fun b cur fr hb => (Below.heap_setCell _ _ _ _ (ne_type hb HRS.out (by decide))))).keepBlock fun b cur fr hb => Below.heap_setCell _ _ _ _ (ne_type hb (cells_setCell HRS.out) (by decide))
  · exact ((HP.out.2.keepBlock fun b cur fr hb => (Below.heap_setCell _ _ _ _ (ne_type hb HRS.out (by decide))))).keepBlock fun b cur fr hb => Below.heap_setCell _ _ _ _ (ne_type hb (cells_setCell HRS.out) (by decide))
end Go.Proofs.YtdkomhmciihkiaaGreat
/-! NdA -/
namespace Go.Proofs.YtdkomhmciihkiaaGreat
open Go.RowKit
set_option linter.unusedVariables false
set_option linter.unusedSimpArgs false

def mnI (x y : Int) : Int := min x y
def mxI (x y : Int) : Int := max x y
theorem mnI_nat (x y : Nat) : mnI (x : Int) (y : Int) = ((min x y : Nat) : Int) := by unfold mnI; omega
theorem mxI_nat (x y : Nat) : mxI (x : Int) (y : Int) = ((max x y : Nat) : Int) := by unfold mxI; omega
theorem wrap_add_nat (x y : Nat) : IntKind.u64.wrap ((x : Int) + (y : Int)) = (((x + y) % 2 ^ 64 : Nat) : Int) := by rw [IntKind.wrap_u64]; omega
/-- the node's block while its sums are made -/
def NB (w : World) (G : Nat) (n : Int) (pv' kp : Value) (S : Sm) : Prop := w.heap[G]? = some (.cells #[.int .i64 n, pv', .int .u64 0, kp, .int .u64 (S.n : Nat), .int .u64 (S.s : Nat), .int .u64 (S.mn : Nat), .int .u64 (S.mx : Nat)] 265 (0, 0))
theorem NB.cell {w : World} {G : Nat} {n : Int} {pv' kp : Value} {S : Sm} (h : NB w G n pv' kp S) (i : Nat) : w.cell? ⟨G, i, none⟩ = (#[.int .i64 n, pv', .int .u64 0, kp, .int .u64 (S.n : Nat), .int .u64 (S.s : Nat), .int .u64 (S.mn : Nat), .int .u64 (S.mx : Nat)] : Array Value)[i]? := by
  unfold NB at h; simp only [World.cell?, h]; simp
theorem NB.thaw {w : World} {G : Nat} {n : Int} {pv' kp : Value} {S : Sm} (h : NB w G n pv' kp S) (i : Nat) : w.frozen? ⟨G, i, none⟩ = false := by unfold NB at h; simp [World.frozen?, h]
theorem NB.lt {w : World} {G : Nat} {n : Int} {pv' kp : Value} {S : Sm} (h : NB w G n pv' kp S) : G < w.heap.size := kr_lt h
theorem NB.set {w : World} {G : Nat} {n : Int} {pv' kp : Value} {S : Sm} (h : NB w G n pv' kp S) (t : Sm) :
    NB ((((w.setCell ⟨G, 4, none⟩ (.int .u64 (t.n : Nat))).setCell ⟨G, 5, none⟩ (.int .u64 (t.s : Nat))).setCell ⟨G, 6, none⟩ (.int .u64 (t.mn : Nat))).setCell ⟨G, 7, none⟩ (.int .u64 (t.mx : Nat))) G n pv' kp t := by
  unfold NB at h ⊢
  rw [kr_set (kr_set (kr_set (kr_set h)))]
  rfl
theorem sums_step {ks : List (Nat × List En)} (hne : ∀ x ∈ ks, x.2 ≠ []) (j : Nat) (h : j < ks.length) :
    sumsL (cat (ks.take (j + 1))) = if j = 0 then sumsL ks[j].2 else (sumsL (cat (ks.take j))).add (sumsL ks[j].2) := by
  rw [← List.take_append_getElem h]
  unfold cat
  rw [List.flatMap_append, List.flatMap_singleton]
  by_cases h0 : j = 0
  · subst h0; simp
  · rw [if_neg h0]
    refine sumsL_append ?_ (hne _ (List.getElem_mem h))
    obtain ⟨x, r, e⟩ : ∃ x r, ks.take j = x :: r := by
      cases ks with
      | nil => simp at h
      | cons x r => cases j with
        | zero => omega
        | succ j => exact ⟨x, _, rfl⟩
    rw [e, List.flatMap_cons]
    have hx : x ∈ ks := List.mem_of_mem_take (by rw [e]; exact List.mem_cons_self ..)
    simp [hne x hx]
theorem OwnV.cells {t : TypeId} {W w : World} {v : Value} {l : List Value} (h : OwnV t W w v l) (h0 : l ≠ []) : ∃ g n, v = .slice (some ⟨g, 0, none⟩) l.length n ∧ W.heap.size ≤ g ∧ ∀ j (hj : j < l.length), w.cell? ⟨g, j, none⟩ = some l[j] := by
  obtain ⟨h1, h2⟩ := h
  rcases h2 with ⟨rfl, h0'⟩ | ⟨g, cap, cur, rfl, hg, hh, hcap, hm, hs, ht⟩
  · exact absurd (List.length_eq_zero_iff.1 h0') h0
  · refine ⟨g, cap, rfl, hg, fun j hj => ?_⟩
    have h3 : l[j]? = some l[j] := List.getElem?_eq_getElem hj
    have h4 : j < l.length * 1 := by omega
    rw [← h3]
    conv => rhs; rw [← ht]
    rw [List.getElem?_take_of_lt h4, World.cell?]
    simp only [hh]
    simp
theorem NB.stays {w w' : World} {G : Nat} {n : Int} {pv' kp : Value} {S : Sm} (h : NB w G n pv' kp S) (hb : Below w.heap.size w w') : NB w' G n pv' kp S := (hb.block G h.lt).trans h
theorem keep_set4 {w1 w : World} {G : Nat} {u4 u5 u6 u7 : Value} (h : ∀ a x, w1.cell? a = some x → a.block ≠ G → w.cell? a = some x) : ∀ a x, w1.cell? a = some x → a.block ≠ G →
    ((((w.setCell ⟨G, 4, none⟩ u4).setCell ⟨G, 5, none⟩ u5).setCell ⟨G, 6, none⟩ u6).setCell ⟨G, 7, none⟩ u7).cell? a = some x := fun a x h1 h2 => by
  have hne : G ≠ a.block := fun e => h2 e.symm
  rw [World.cell?_setCell_far _ _ _ _ hne, World.cell?_setCell_far _ _ _ _ hne, World.cell?_setCell_far _ _ _ _ hne, World.cell?_setCell_far _ _ _ _ hne]
  exact h a x h1 h2
theorem below_set4 {W w : World} {G : Nat} {u4 u5 u6 u7 : Value} (h : Below W.heap.size W w) (hG : W.heap.size ≤ G) :
    Below W.heap.size W ((((w.setCell ⟨G, 4, none⟩ u4).setCell ⟨G, 5, none⟩ u5).setCell ⟨G, 6, none⟩ u6).setCell ⟨G, 7, none⟩ u7) := (((h.setCell hG _).setCell hG _).setCell hG _).setCell hG _
/-- a node is handed back -/
def NdP (W : World) (k : Nat) (l : List En) (e : Ending) (w' : World) : Prop := ∃ g, e = .returned (.pointer (some ⟨g, 0, none⟩)) ∧ Nd w' k g l ∧ Below W.heap.size W w'

set_option maxRecDepth 100000 in
set_option maxHeartbeats 4000000 in
theorem made_any (k n s : Nat) (pre : List Nat) (up : Value) (ks : List (Nat × Nat × List En)) (w : World) (hu : RdU w up (pti pre)) (hty : TyB w up 22) (hs : SlR w s k (ks.map kb)) (hk : Kd k n pre (ks.map kl)) (hn : ∀ x ∈ ks, Nd w k x.2.1 x.2.2) :
    Calls Tryz.prog 175 #[.int .i64 (n : Nat), up, .pointer (some ⟨s, 0, none⟩)] w fun e w' => NdP w k (cat (ks.map kl)) e w' := by
  have HALL := Lib.hid (fun w' h => all_any s k (ks.map kb) w' h)
  have HS := Lib.hid hs
  have HK := Lib.hid hk
  have HN := Lib.hid hn
  have HU := Lib.hid hu
  have HTY := Lib.hid hty
  clear hty
  have hlen : ks.length ≤ 65536 := by
    have h1 := hs.rw'.len
    have h2 := pow_le k hs.k16
    rw [List.length_map] at h1; omega
  have HL := Lib.hid hlen
  obtain ⟨A, c, rfl, _⟩ := RdU.point hu
  obtain ⟨pl, hpl⟩ : ∃ pl, pre.length = pl := ⟨_, rfl⟩
  rw [hpl] at HU HTY ⊢
  clear hs hk hn hu hlen
  go_enter Tryz.func175, Tryz.ntmps175
  go_wp2_with fail
  refine (HALL.out _ (HS.out.below (by repeat (first | exact Below.refl _ _ | (refine Below.drew ?_) | (refine below_drewN' ?_ _) | (refine below_alloc' ?_ _) | (refine Below.setCell ?_ (by first | exact Nat.le_refl _ | (simp; done) | (simp; omega)) _))))).mono ?_
  rintro e w1 ⟨v1, rfl, hown, hb1⟩
  have hnb : NB w1 w.heap.size n (.slice A pl c) (.pointer (some ⟨s, 0, none⟩)) ⟨0, 0, 0, 0⟩ := (hb1.block _ (by simp)).trans (by show (w.heap.push _)[w.heap.size]? = _; simp)
  have hB1 : Below w.heap.size w w1 := (show Below w.heap.size w _ from below_alloc' (Below.refl _ _) _).trans (hb1.mono (by simp))
  obtain ⟨b2, c1, rfl, hb2, hx⟩ := hown.cells (by intro h; rw [List.map_map, List.map_eq_nil_iff] at h; have := HK.out.two; rw [h] at this; simp at this)
  rw [List.length_map, List.length_map] at *
  simp only [World.size_alloc] at hb2
  have HX := Lib.hid (And.intro hx hb2)
  have HB1 := Lib.hid (And.intro hnb hB1)
  obtain ⟨G, hG⟩ : ∃ G, w.heap.size = G := ⟨_, rfl⟩
  have HG := Lib.hid hG
  rw [hG] at HB1 HX
  simp only [hG]
  clear hown hb1 hx hnb hB1 hb2
  go_wp2_with fail
  go_loopw [8, 9, 10, 19] (fun _ _ _ i wr => ∃ j : Nat, j ≤ ks.length ∧ i = .int .i64 j ∧ NB wr G n (.slice A pl c) (.pointer (some ⟨s, 0, none⟩)) (sumsL (cat ((ks.map kl).take j))) ∧ Below w.heap.size w wr ∧ (∀ a x, w1.cell? a = some x → a.block ≠ G → wr.cell? a = some x)) (fun _ _ _ i _ => ks.length - (intOf i).toNat)
  case atStart => exact ⟨0, Nat.zero_le _, rfl, HB1.out.1, by rw [HG.out]; exact HB1.out.2, fun a x h _ => h⟩
  case round =>
    obtain ⟨j, hj, rfl, hnb, hb, hkp⟩ := hrel
    have HNB := Lib.hid hnb
    have HB := Lib.hid hb
    have HKP := Lib.hid hkp
    by_cases hlt : j < ks.length
    · have h3 : (j : Int) < (ks.length : Int) := by omega
      have h5 : (0 : Int) ≤ (j : Int) := by omega
      have HW := Lib.hid (show wrap64 ((j : Int) + 1) = ((j + 1 : Nat) : Int) by have := HL.out; unfold wrap64; omega)
      have HST := Lib.hid (sums_step (ks := ks.map kl) HK.out.ne j (by rw [List.length_map]; exact hlt))
      have k0 := HX.out.1 j (by rw [List.length_map, List.length_map]; exact hlt)
      simp only [List.getElem_map, kb, nodeV] at k0
      replace k0 := hkp _ _ k0 (show b2 ≠ G by have := HX.out.2; omega)
      have hnd := (HN.out ks[j] (List.getElem_mem hlt)).bel hb
      obtain ⟨vv, kp, hh⟩ := hnd.hd
      have hlb := World.block_lt_of_cell? wr _ k0
      have x4 := hh.c4
      have x5 := hh.c5
      have x6 := hh.c6
      have x7 := hh.c7
      have hxl := World.block_lt_of_cell? wr _ x4
      rw [List.getElem_map] at HST
      simp only [kl] at HST
      generalize sumsL ks[j].2.2 = t at *
      generalize ks[j].2.1 = kbk at *
      obtain ⟨S, hS⟩ : ∃ S, sumsL (cat ((ks.map kl).take j)) = S := ⟨_, rfl⟩
      rw [hS] at HNB HST
      have hGl := HNB.out.lt
      have gG : ¬ wr.heap.size = G := by omega
      have g4 : wr.cell? ⟨G, 4, none⟩ = some (.int .u64 (S.n : Nat)) := HNB.out.cell 4
      have g5 : wr.cell? ⟨G, 5, none⟩ = some (.int .u64 (S.s : Nat)) := HNB.out.cell 5
      have g6 : wr.cell? ⟨G, 6, none⟩ = some (.int .u64 (S.mn : Nat)) := HNB.out.cell 6
      have g7 : wr.cell? ⟨G, 7, none⟩ = some (.int .u64 (S.mx : Nat)) := HNB.out.cell 7
      clear hh hnd hnb hb hkp hS
      by_cases h0 : j = 0
      · subst h0
        have f4 := HNB.out.thaw 4
        have f5 := HNB.out.thaw 5
        have f6 := HNB.out.thaw 6
        have f7 := HNB.out.thaw 7
        go_wp2_with fail
        go_roundw
        case rel =>
          rw [if_pos rfl] at HST
          refine ⟨1, by omega, rfl, ?_, below_alloc' (below_set4 HB.out (by rw [HG.out]; exact Nat.le_refl _)) _, fun a x h1 h2 => ?_⟩
          · rw [HST.out]
            exact (HNB.out.set t).stays (below_alloc' (Below.refl _ _) _)
          · exact Below.keeps (below_alloc' (Below.refl _ _) _) _ _ (keep_set4 HKP.out a x h1 h2)
        case measure => simp [intOf]; omega
      · have h0' : ((j : Int) == 0) = false := by simp; omega
        go_wp2_with fail
        refine wp_region_vals 36 [fun z9 _ => z9 = .pointer (some ⟨G, 0, none⟩),
          fun z9 _ => z9 = .pointer (some ⟨G, 0, none⟩),
          fun z9 _ => z9 = .pointer (some ⟨G, 0, none⟩),
          fun z9 _ => z9 = .pointer (some ⟨G, 4, none⟩),
          fun z9 _ => z9 = .pointer (some ⟨G, 4, none⟩),
          fun z9 _ => z9 = .int .u64 ((S.n : Nat)),
          fun z9 _ => z9 = .pointer (some ⟨wr.heap.size, 0, none⟩),
          fun z9 _ => z9 = .int .u64 ((t.n : Nat)),
          fun z9 _ => z9 = .int .u64 (IntKind.u64.wrap ((((S.n : Nat) : Int)) + (((t.n : Nat) : Int)))),
          fun z9 _ => z9 = .pointer (some ⟨G, 0, none⟩),
          fun z9 _ => z9 = .pointer (some ⟨G, 0, none⟩),
          fun z9 _ => z9 = .pointer (some ⟨G, 4, none⟩),
          fun z9 _ => z9 = .pointer (some ⟨G, 5, none⟩),
          fun z9 _ => z9 = .int .u64 ((S.s : Nat)),
          fun z9 _ => z9 = .pointer (some ⟨wr.heap.size, 1, none⟩),
          fun z9 _ => z9 = .int .u64 ((t.s : Nat)),
          fun z9 _ => z9 = .int .u64 (IntKind.u64.wrap ((((S.s : Nat) : Int)) + (((t.s : Nat) : Int)))),
          fun z9 _ => z9 = .pointer (some ⟨G, 0, none⟩),
          fun z9 _ => z9 = .pointer (some ⟨G, 0, none⟩),
          fun z9 _ => z9 = .pointer (some ⟨G, 4, none⟩),
          fun z9 _ => z9 = .pointer (some ⟨G, 6, none⟩),
          fun z9 _ => z9 = .int .u64 ((S.mn : Nat)),
          fun z9 _ => z9 = .pointer (some ⟨wr.heap.size, 2, none⟩),
          fun z9 _ => z9 = .int .u64 ((t.mn : Nat)),
          fun z9 _ => z9 = .int .u64 (mnI ((S.mn : Nat) : Int) ((t.mn : Nat) : Int)),
          fun z9 _ => z9 = .pointer (some ⟨G, 0, none⟩),
          fun z9 _ => z9 = .pointer (some ⟨G, 0, none⟩),
          fun z9 _ => z9 = .pointer (some ⟨G, 4, none⟩),
          fun z9 _ => z9 = .pointer (some ⟨G, 7, none⟩),
          fun z9 _ => z9 = .int .u64 ((S.mx : Nat)),
          fun z9 _ => z9 = .pointer (some ⟨wr.heap.size, 3, none⟩),
          fun z9 _ => z9 = .int .u64 ((t.mx : Nat)),
          fun z9 _ => z9 = .int .u64 (mxI ((S.mx : Nat) : Int) ((t.mx : Nat) : Int)),
          fun z9 _ => z9 = .agg #[.int .u64 (IntKind.u64.wrap ((((S.n : Nat) : Int)) + (((t.n : Nat) : Int)))), .int .u64 (IntKind.u64.wrap ((((S.s : Nat) : Int)) + (((t.s : Nat) : Int)))), .int .u64 (mnI ((S.mn : Nat) : Int) ((t.mn : Nat) : Int)), .int .u64 (mxI ((S.mx : Nat) : Int) ((t.mx : Nat) : Int))],
          fun z9 _ => z9 = .pointer (some ⟨G, 0, none⟩),
          fun z9 _ => z9 = .pointer (some ⟨G, 4, none⟩)]
          (by kernel_rfl) (by kernel_rfl) (by kernel_rfl) (by kernel_rfl) ?_ ?_ ?_
        · intro V hV v w1 w2 h hb
          simp only [List.mem_cons, List.not_mem_nil, or_false] at hV
          rcases hV with rfl | rfl | rfl | rfl | rfl | rfl | rfl | rfl | rfl | rfl | rfl | rfl | rfl | rfl | rfl | rfl | rfl | rfl | rfl | rfl | rfl | rfl | rfl | rfl | rfl | rfl | rfl | rfl | rfl | rfl | rfl | rfl | rfl | rfl | rfl | rfl
          all_goals first | exact h | (exact h)
        · intro iq oq hiq hoq
          match iq, hiq with
          | 0, _ =>
          obtain rfl := Option.some.inj hoq
          intro a1 w1 K hk hK
          have e7 : a1.tmps.getD 7 undef = .pointer (some ⟨G, 0, none⟩) := hk.same 7 (by simp)
          simp [Region.wanted, Oper.wp, Act.eval, go_sem, e7, gG, g4, g5, g6, g7, hGl]
          exact hK _ _ (Below.refl _ _) rfl
          | 1, _ =>
          obtain rfl := Option.some.inj hoq
          intro a1 w1 K hk hK
          have e7 : a1.tmps.getD 7 undef = .pointer (some ⟨G, 0, none⟩) := hk.same 7 (by simp)
          simp [Region.wanted, Oper.wp, Act.eval, go_sem, e7, gG, g4, g5, g6, g7, hGl]
          exact hK _ _ (Below.refl _ _) rfl
          | 2, _ =>
          obtain rfl := Option.some.inj hoq
          intro a1 w1 K hk hK
          have d35 : a1.tmps.getD 35 undef = .pointer (some ⟨G, 0, none⟩) := hk.deps ⟨1, .data⟩ (by simp) rfl _ _ rfl rfl
          simp [Region.wanted, Oper.wp, Act.eval, go_sem, d35, gG, g4, g5, g6, g7, hGl]
          exact hK _ _ (Below.refl _ _) rfl
          | 3, _ =>
          obtain rfl := Option.some.inj hoq
          intro a1 w1 K hk hK
          have d36 : a1.tmps.getD 36 undef = .pointer (some ⟨G, 0, none⟩) := hk.deps ⟨2, .data⟩ (by simp) rfl _ _ rfl rfl
          simp [Region.wanted, Oper.wp, Act.eval, go_sem, d36, gG, g4, g5, g6, g7, hGl]
          exact hK _ _ (Below.refl _ _) rfl
          | 4, _ =>
          obtain rfl := Option.some.inj hoq
          intro a1 w1 K hk hK
          have d37 : a1.tmps.getD 37 undef = .pointer (some ⟨G, 4, none⟩) := hk.deps ⟨3, .data⟩ (by simp) rfl _ _ rfl rfl
          simp [Region.wanted, Oper.wp, Act.eval, go_sem, d37, gG, g4, g5, g6, g7, hGl]
          exact hK _ _ (Below.refl _ _) rfl
          | 5, _ =>
          obtain rfl := Option.some.inj hoq
          intro a1 w1 K hk hK
          have d38 : a1.tmps.getD 38 undef = .pointer (some ⟨G, 4, none⟩) := hk.deps ⟨4, .data⟩ (by simp) rfl _ _ rfl rfl
          have c0 : w1.cell? ⟨G, 4, none⟩ = some (.int .u64 ((S.n : Nat))) := Below.keeps hk.ext _ _ (by simp [go_sem, gG, g4, g5, g6, g7, hGl])
          have c1 : w1.cell? ⟨G, 5, none⟩ = some (.int .u64 ((S.s : Nat))) := Below.keeps hk.ext _ _ (by simp [go_sem, gG, g4, g5, g6, g7, hGl])
          have c2 : w1.cell? ⟨G, 6, none⟩ = some (.int .u64 ((S.mn : Nat))) := Below.keeps hk.ext _ _ (by simp [go_sem, gG, g4, g5, g6, g7, hGl])
          have c3 : w1.cell? ⟨G, 7, none⟩ = some (.int .u64 ((S.mx : Nat))) := Below.keeps hk.ext _ _ (by simp [go_sem, gG, g4, g5, g6, g7, hGl])
          have c4 : w1.cell? ⟨wr.heap.size, 0, none⟩ = some (.int .u64 ((t.n : Nat))) := Below.keeps hk.ext _ _ (by simp [go_sem, gG, g4, g5, g6, g7, hGl])
          have c5 : w1.cell? ⟨wr.heap.size, 1, none⟩ = some (.int .u64 ((t.s : Nat))) := Below.keeps hk.ext _ _ (by simp [go_sem, gG, g4, g5, g6, g7, hGl])
          have c6 : w1.cell? ⟨wr.heap.size, 2, none⟩ = some (.int .u64 ((t.mn : Nat))) := Below.keeps hk.ext _ _ (by simp [go_sem, gG, g4, g5, g6, g7, hGl])
          have c7 : w1.cell? ⟨wr.heap.size, 3, none⟩ = some (.int .u64 ((t.mx : Nat))) := Below.keeps hk.ext _ _ (by simp [go_sem, gG, g4, g5, g6, g7, hGl])
          simp [Region.wanted, Oper.wp, Act.eval, go_sem, d38, c0, c1, c2, c3, c4, c5, c6, c7, gG, g4, g5, g6, g7, hGl]
          exact hK _ _ (Below.refl _ _) rfl
          | 6, _ =>
          obtain rfl := Option.some.inj hoq
          intro a1 w1 K hk hK
          have e10 : a1.tmps.getD 10 undef = .pointer (some ⟨wr.heap.size, 0, none⟩) := hk.same 10 (by simp)
          simp [Region.wanted, Oper.wp, Act.eval, go_sem, e10, gG, g4, g5, g6, g7, hGl]
          exact hK _ _ (Below.refl _ _) rfl
          | 7, _ =>
          obtain rfl := Option.some.inj hoq
          intro a1 w1 K hk hK
          have d40 : a1.tmps.getD 40 undef = .pointer (some ⟨wr.heap.size, 0, none⟩) := hk.deps ⟨6, .data⟩ (by simp) rfl _ _ rfl rfl
          have c0 : w1.cell? ⟨G, 4, none⟩ = some (.int .u64 ((S.n : Nat))) := Below.keeps hk.ext _ _ (by simp [go_sem, gG, g4, g5, g6, g7, hGl])
          have c1 : w1.cell? ⟨G, 5, none⟩ = some (.int .u64 ((S.s : Nat))) := Below.keeps hk.ext _ _ (by simp [go_sem, gG, g4, g5, g6, g7, hGl])
          have c2 : w1.cell? ⟨G, 6, none⟩ = some (.int .u64 ((S.mn : Nat))) := Below.keeps hk.ext _ _ (by simp [go_sem, gG, g4, g5, g6, g7, hGl])
          have c3 : w1.cell? ⟨G, 7, none⟩ = some (.int .u64 ((S.mx : Nat))) := Below.keeps hk.ext _ _ (by simp [go_sem, gG, g4, g5, g6, g7, hGl])
          have c4 : w1.cell? ⟨wr.heap.size, 0, none⟩ = some (.int .u64 ((t.n : Nat))) := Below.keeps hk.ext _ _ (by simp [go_sem, gG, g4, g5, g6, g7, hGl])
          have c5 : w1.cell? ⟨wr.heap.size, 1, none⟩ = some (.int .u64 ((t.s : Nat))) := Below.keeps hk.ext _ _ (by simp [go_sem, gG, g4, g5, g6, g7, hGl])
          have c6 : w1.cell? ⟨wr.heap.size, 2, none⟩ = some (.int .u64 ((t.mn : Nat))) := Below.keeps hk.ext _ _ (by simp [go_sem, gG, g4, g5, g6, g7, hGl])
          have c7 : w1.cell? ⟨wr.heap.size, 3, none⟩ = some (.int .u64 ((t.mx : Nat))) := Below.keeps hk.ext _ _ (by simp [go_sem, gG, g4, g5, g6, g7, hGl])
          simp [Region.wanted, Oper.wp, Act.eval, go_sem, d40, c0, c1, c2, c3, c4, c5, c6, c7, gG, g4, g5, g6, g7, hGl]
          exact hK _ _ (Below.refl _ _) rfl
          | 8, _ =>
          obtain rfl := Option.some.inj hoq
          intro a1 w1 K hk hK
          have d39 : a1.tmps.getD 39 undef = .int .u64 ((S.n : Nat)) := hk.deps ⟨5, .data⟩ (by simp) rfl _ _ rfl rfl
          have d41 : a1.tmps.getD 41 undef = .int .u64 ((t.n : Nat)) := hk.deps ⟨7, .data⟩ (by simp) rfl _ _ rfl rfl
          simp [Region.wanted, Oper.wp, Act.eval, go_sem, d39, d41, gG, g4, g5, g6, g7, hGl]
          exact hK _ _ (Below.refl _ _) rfl
          | 9, _ =>
          obtain rfl := Option.some.inj hoq
          intro a1 w1 K hk hK
          have e7 : a1.tmps.getD 7 undef = .pointer (some ⟨G, 0, none⟩) := hk.same 7 (by simp)
          simp [Region.wanted, Oper.wp, Act.eval, go_sem, e7, gG, g4, g5, g6, g7, hGl]
          exact hK _ _ (Below.refl _ _) rfl
          | 10, _ =>
          obtain rfl := Option.some.inj hoq
          intro a1 w1 K hk hK
          have d43 : a1.tmps.getD 43 undef = .pointer (some ⟨G, 0, none⟩) := hk.deps ⟨9, .data⟩ (by simp) rfl _ _ rfl rfl
          simp [Region.wanted, Oper.wp, Act.eval, go_sem, d43, gG, g4, g5, g6, g7, hGl]
          exact hK _ _ (Below.refl _ _) rfl
          | 11, _ =>
          obtain rfl := Option.some.inj hoq
          intro a1 w1 K hk hK
          have d44 : a1.tmps.getD 44 undef = .pointer (some ⟨G, 0, none⟩) := hk.deps ⟨10, .data⟩ (by simp) rfl _ _ rfl rfl
          simp [Region.wanted, Oper.wp, Act.eval, go_sem, d44, gG, g4, g5, g6, g7, hGl]
          exact hK _ _ (Below.refl _ _) rfl
          | 12, _ =>
          obtain rfl := Option.some.inj hoq
          intro a1 w1 K hk hK
          have d45 : a1.tmps.getD 45 undef = .pointer (some ⟨G, 4, none⟩) := hk.deps ⟨11, .data⟩ (by simp) rfl _ _ rfl rfl
          simp [Region.wanted, Oper.wp, Act.eval, go_sem, d45, gG, g4, g5, g6, g7, hGl]
          exact hK _ _ (Below.refl _ _) rfl
          | 13, _ =>
          obtain rfl := Option.some.inj hoq
          intro a1 w1 K hk hK
          have d46 : a1.tmps.getD 46 undef = .pointer (some ⟨G, 5, none⟩) := hk.deps ⟨12, .data⟩ (by simp) rfl _ _ rfl rfl
          have c0 : w1.cell? ⟨G, 4, none⟩ = some (.int .u64 ((S.n : Nat))) := Below.keeps hk.ext _ _ (by simp [go_sem, gG, g4, g5, g6, g7, hGl])
          have c1 : w1.cell? ⟨G, 5, none⟩ = some (.int .u64 ((S.s : Nat))) := Below.keeps hk.ext _ _ (by simp [go_sem, gG, g4, g5, g6, g7, hGl])
          have c2 : w1.cell? ⟨G, 6, none⟩ = some (.int .u64 ((S.mn : Nat))) := Below.keeps hk.ext _ _ (by simp [go_sem, gG, g4, g5, g6, g7, hGl])
          have c3 : w1.cell? ⟨G, 7, none⟩ = some (.int .u64 ((S.mx : Nat))) := Below.keeps hk.ext _ _ (by simp [go_sem, gG, g4, g5, g6, g7, hGl])
          have c4 : w1.cell? ⟨wr.heap.size, 0, none⟩ = some (.int .u64 ((t.n : Nat))) := Below.keeps hk.ext _ _ (by simp [go_sem, gG, g4, g5, g6, g7, hGl])
          have c5 : w1.cell? ⟨wr.heap.size, 1, none⟩ = some (.int .u64 ((t.s : Nat))) := Below.keeps hk.ext _ _ (by simp [go_sem, gG, g4, g5, g6, g7, hGl])
          have c6 : w1.cell? ⟨wr.heap.size, 2, none⟩ = some (.int .u64 ((t.mn : Nat))) := Below.keeps hk.ext _ _ (by simp [go_sem, gG, g4, g5, g6, g7, hGl])
          have c7 : w1.cell? ⟨wr.heap.size, 3, none⟩ = some (.int .u64 ((t.mx : Nat))) := Below.keeps hk.ext _ _ (by simp [go_sem, gG, g4, g5, g6, g7, hGl])
          simp [Region.wanted, Oper.wp, Act.eval, go_sem, d46, c0, c1, c2, c3, c4, c5, c6, c7, gG, g4, g5, g6, g7, hGl]
          exact hK _ _ (Below.refl _ _) rfl
          | 14, _ =>
          obtain rfl := Option.some.inj hoq
          intro a1 w1 K hk hK
          have e10 : a1.tmps.getD 10 undef = .pointer (some ⟨wr.heap.size, 0, none⟩) := hk.same 10 (by simp)
          simp [Region.wanted, Oper.wp, Act.eval, go_sem, e10, gG, g4, g5, g6, g7, hGl]
          exact hK _ _ (Below.refl _ _) rfl
          | 15, _ =>
          obtain rfl := Option.some.inj hoq
          intro a1 w1 K hk hK
          have d48 : a1.tmps.getD 48 undef = .pointer (some ⟨wr.heap.size, 1, none⟩) := hk.deps ⟨14, .data⟩ (by simp) rfl _ _ rfl rfl
          have c0 : w1.cell? ⟨G, 4, none⟩ = some (.int .u64 ((S.n : Nat))) := Below.keeps hk.ext _ _ (by simp [go_sem, gG, g4, g5, g6, g7, hGl])
          have c1 : w1.cell? ⟨G, 5, none⟩ = some (.int .u64 ((S.s : Nat))) := Below.keeps hk.ext _ _ (by simp [go_sem, gG, g4, g5, g6, g7, hGl])
          have c2 : w1.cell? ⟨G, 6, none⟩ = some (.int .u64 ((S.mn : Nat))) := Below.keeps hk.ext _ _ (by simp [go_sem, gG, g4, g5, g6, g7, hGl])
          have c3 : w1.cell? ⟨G, 7, none⟩ = some (.int .u64 ((S.mx : Nat))) := Below.keeps hk.ext _ _ (by simp [go_sem, gG, g4, g5, g6, g7, hGl])
          have c4 : w1.cell? ⟨wr.heap.size, 0, none⟩ = some (.int .u64 ((t.n : Nat))) := Below.keeps hk.ext _ _ (by simp [go_sem, gG, g4, g5, g6, g7, hGl])
          have c5 : w1.cell? ⟨wr.heap.size, 1, none⟩ = some (.int .u64 ((t.s : Nat))) := Below.keeps hk.ext _ _ (by simp [go_sem, gG, g4, g5, g6, g7, hGl])
          have c6 : w1.cell? ⟨wr.heap.size, 2, none⟩ = some (.int .u64 ((t.mn : Nat))) := Below.keeps hk.ext _ _ (by simp [go_sem, gG, g4, g5, g6, g7, hGl])
          have c7 : w1.cell? ⟨wr.heap.size, 3, none⟩ = some (.int .u64 ((t.mx : Nat))) := Below.keeps hk.ext _ _ (by simp [go_sem, gG, g4, g5, g6, g7, hGl])
          simp [Region.wanted, Oper.wp, Act.eval, go_sem, d48, c0, c1, c2, c3, c4, c5, c6, c7, gG, g4, g5, g6, g7, hGl]
          exact hK _ _ (Below.refl _ _) rfl
          | 16, _ =>
          obtain rfl := Option.some.inj hoq
          intro a1 w1 K hk hK
          have d47 : a1.tmps.getD 47 undef = .int .u64 ((S.s : Nat)) := hk.deps ⟨13, .data⟩ (by simp) rfl _ _ rfl rfl
          have d49 : a1.tmps.getD 49 undef = .int .u64 ((t.s : Nat)) := hk.deps ⟨15, .data⟩ (by simp) rfl _ _ rfl rfl
          simp [Region.wanted, Oper.wp, Act.eval, go_sem, d47, d49, gG, g4, g5, g6, g7, hGl]
          exact hK _ _ (Below.refl _ _) rfl
          | 17, _ =>
          obtain rfl := Option.some.inj hoq
          intro a1 w1 K hk hK
          have e7 : a1.tmps.getD 7 undef = .pointer (some ⟨G, 0, none⟩) := hk.same 7 (by simp)
          simp [Region.wanted, Oper.wp, Act.eval, go_sem, e7, gG, g4, g5, g6, g7, hGl]
          exact hK _ _ (Below.refl _ _) rfl
          | 18, _ =>
          obtain rfl := Option.some.inj hoq
          intro a1 w1 K hk hK
          have d51 : a1.tmps.getD 51 undef = .pointer (some ⟨G, 0, none⟩) := hk.deps ⟨17, .data⟩ (by simp) rfl _ _ rfl rfl
          simp [Region.wanted, Oper.wp, Act.eval, go_sem, d51, gG, g4, g5, g6, g7, hGl]
          exact hK _ _ (Below.refl _ _) rfl
          | 19, _ =>
          obtain rfl := Option.some.inj hoq
          intro a1 w1 K hk hK
          have d52 : a1.tmps.getD 52 undef = .pointer (some ⟨G, 0, none⟩) := hk.deps ⟨18, .data⟩ (by simp) rfl _ _ rfl rfl
          simp [Region.wanted, Oper.wp, Act.eval, go_sem, d52, gG, g4, g5, g6, g7, hGl]
          exact hK _ _ (Below.refl _ _) rfl
          | 20, _ =>
          obtain rfl := Option.some.inj hoq
          intro a1 w1 K hk hK
          have d53 : a1.tmps.getD 53 undef = .pointer (some ⟨G, 4, none⟩) := hk.deps ⟨19, .data⟩ (by simp) rfl _ _ rfl rfl
          simp [Region.wanted, Oper.wp, Act.eval, go_sem, d53, gG, g4, g5, g6, g7, hGl]
          exact hK _ _ (Below.refl _ _) rfl
          | 21, _ =>
          obtain rfl := Option.some.inj hoq
          intro a1 w1 K hk hK
          have d54 : a1.tmps.getD 54 undef = .pointer (some ⟨G, 6, none⟩) := hk.deps ⟨20, .data⟩ (by simp) rfl _ _ rfl rfl
          have c0 : w1.cell? ⟨G, 4, none⟩ = some (.int .u64 ((S.n : Nat))) := Below.keeps hk.ext _ _ (by simp [go_sem, gG, g4, g5, g6, g7, hGl])
          have c1 : w1.cell? ⟨G, 5, none⟩ = some (.int .u64 ((S.s : Nat))) := Below.keeps hk.ext _ _ (by simp [go_sem, gG, g4, g5, g6, g7, hGl])
          have c2 : w1.cell? ⟨G, 6, none⟩ = some (.int .u64 ((S.mn : Nat))) := Below.keeps hk.ext _ _ (by simp [go_sem, gG, g4, g5, g6, g7, hGl])
          have c3 : w1.cell? ⟨G, 7, none⟩ = some (.int .u64 ((S.mx : Nat))) := Below.keeps hk.ext _ _ (by simp [go_sem, gG, g4, g5, g6, g7, hGl])
          have c4 : w1.cell? ⟨wr.heap.size, 0, none⟩ = some (.int .u64 ((t.n : Nat))) := Below.keeps hk.ext _ _ (by simp [go_sem, gG, g4, g5, g6, g7, hGl])
          have c5 : w1.cell? ⟨wr.heap.size, 1, none⟩ = some (.int .u64 ((t.s : Nat))) := Below.keeps hk.ext _ _ (by simp [go_sem, gG, g4, g5, g6, g7, hGl])
          have c6 : w1.cell? ⟨wr.heap.size, 2, none⟩ = some (.int .u64 ((t.mn : Nat))) := Below.keeps hk.ext _ _ (by simp [go_sem, gG, g4, g5, g6, g7, hGl])
          have c7 : w1.cell? ⟨wr.heap.size, 3, none⟩ = some (.int .u64 ((t.mx : Nat))) := Below.keeps hk.ext _ _ (by simp [go_sem, gG, g4, g5, g6, g7, hGl])
          simp [Region.wanted, Oper.wp, Act.eval, go_sem, d54, c0, c1, c2, c3, c4, c5, c6, c7, gG, g4, g5, g6, g7, hGl]
          exact hK _ _ (Below.refl _ _) rfl
          | 22, _ =>
          obtain rfl := Option.some.inj hoq
          intro a1 w1 K hk hK
          have e10 : a1.tmps.getD 10 undef = .pointer (some ⟨wr.heap.size, 0, none⟩) := hk.same 10 (by simp)
          simp [Region.wanted, Oper.wp, Act.eval, go_sem, e10, gG, g4, g5, g6, g7, hGl]
          exact hK _ _ (Below.refl _ _) rfl
          | 23, _ =>
          obtain rfl := Option.some.inj hoq
          intro a1 w1 K hk hK
          have d56 : a1.tmps.getD 56 undef = .pointer (some ⟨wr.heap.size, 2, none⟩) := hk.deps ⟨22, .data⟩ (by simp) rfl _ _ rfl rfl
          have c0 : w1.cell? ⟨G, 4, none⟩ = some (.int .u64 ((S.n : Nat))) := Below.keeps hk.ext _ _ (by simp [go_sem, gG, g4, g5, g6, g7, hGl])
          have c1 : w1.cell? ⟨G, 5, none⟩ = some (.int .u64 ((S.s : Nat))) := Below.keeps hk.ext _ _ (by simp [go_sem, gG, g4, g5, g6, g7, hGl])
          have c2 : w1.cell? ⟨G, 6, none⟩ = some (.int .u64 ((S.mn : Nat))) := Below.keeps hk.ext _ _ (by simp [go_sem, gG, g4, g5, g6, g7, hGl])
          have c3 : w1.cell? ⟨G, 7, none⟩ = some (.int .u64 ((S.mx : Nat))) := Below.keeps hk.ext _ _ (by simp [go_sem, gG, g4, g5, g6, g7, hGl])
          have c4 : w1.cell? ⟨wr.heap.size, 0, none⟩ = some (.int .u64 ((t.n : Nat))) := Below.keeps hk.ext _ _ (by simp [go_sem, gG, g4, g5, g6, g7, hGl])
          have c5 : w1.cell? ⟨wr.heap.size, 1, none⟩ = some (.int .u64 ((t.s : Nat))) := Below.keeps hk.ext _ _ (by simp [go_sem, gG, g4, g5, g6, g7, hGl])
          have c6 : w1.cell? ⟨wr.heap.size, 2, none⟩ = some (.int .u64 ((t.mn : Nat))) := Below.keeps hk.ext _ _ (by simp [go_sem, gG, g4, g5, g6, g7, hGl])
          have c7 : w1.cell? ⟨wr.heap.size, 3, none⟩ = some (.int .u64 ((t.mx : Nat))) := Below.keeps hk.ext _ _ (by simp [go_sem, gG, g4, g5, g6, g7, hGl])
          simp [Region.wanted, Oper.wp, Act.eval, go_sem, d56, c0, c1, c2, c3, c4, c5, c6, c7, gG, g4, g5, g6, g7, hGl]
          exact hK _ _ (Below.refl _ _) rfl
          | 24, _ =>
          obtain rfl := Option.some.inj hoq
          intro a1 w1 K hk hK
          have d55 : a1.tmps.getD 55 undef = .int .u64 ((S.mn : Nat)) := hk.deps ⟨21, .data⟩ (by simp) rfl _ _ rfl rfl
          have d57 : a1.tmps.getD 57 undef = .int .u64 ((t.mn : Nat)) := hk.deps ⟨23, .data⟩ (by simp) rfl _ _ rfl rfl
          simp [Region.wanted, Oper.wp, Act.eval, go_sem, d55, d57, gG, g4, g5, g6, g7, hGl]
          exact hK _ _ (Below.refl _ _) rfl
          | 25, _ =>
          obtain rfl := Option.some.inj hoq
          intro a1 w1 K hk hK
          have e7 : a1.tmps.getD 7 undef = .pointer (some ⟨G, 0, none⟩) := hk.same 7 (by simp)
          simp [Region.wanted, Oper.wp, Act.eval, go_sem, e7, gG, g4, g5, g6, g7, hGl]
          exact hK _ _ (Below.refl _ _) rfl
          | 26, _ =>
          obtain rfl := Option.some.inj hoq
          intro a1 w1 K hk hK
          have d59 : a1.tmps.getD 59 undef = .pointer (some ⟨G, 0, none⟩) := hk.deps ⟨25, .data⟩ (by simp) rfl _ _ rfl rfl
          simp [Region.wanted, Oper.wp, Act.eval, go_sem, d59, gG, g4, g5, g6, g7, hGl]
          exact hK _ _ (Below.refl _ _) rfl
          | 27, _ =>
          obtain rfl := Option.some.inj hoq
          intro a1 w1 K hk hK
          have d60 : a1.tmps.getD 60 undef = .pointer (some ⟨G, 0, none⟩) := hk.deps ⟨26, .data⟩ (by simp) rfl _ _ rfl rfl
          simp [Region.wanted, Oper.wp, Act.eval, go_sem, d60, gG, g4, g5, g6, g7, hGl]
          exact hK _ _ (Below.refl _ _) rfl
          | 28, _ =>
          obtain rfl := Option.some.inj hoq
          intro a1 w1 K hk hK
          have d61 : a1.tmps.getD 61 undef = .pointer (some ⟨G, 4, none⟩) := hk.deps ⟨27, .data⟩ (by simp) rfl _ _ rfl rfl
          simp [Region.wanted, Oper.wp, Act.eval, go_sem, d61, gG, g4, g5, g6, g7, hGl]
          exact hK _ _ (Below.refl _ _) rfl
          | 29, _ =>
          obtain rfl := Option.some.inj hoq
          intro a1 w1 K hk hK
          have d62 : a1.tmps.getD 62 undef = .pointer (some ⟨G, 7, none⟩) := hk.deps ⟨28, .data⟩ (by simp) rfl _ _ rfl rfl
          have c0 : w1.cell? ⟨G, 4, none⟩ = some (.int .u64 ((S.n : Nat))) := Below.keeps hk.ext _ _ (by simp [go_sem, gG, g4, g5, g6, g7, hGl])
          have c1 : w1.cell? ⟨G, 5, none⟩ = some (.int .u64 ((S.s : Nat))) := Below.keeps hk.ext _ _ (by simp [go_sem, gG, g4, g5, g6, g7, hGl])
          have c2 : w1.cell? ⟨G, 6, none⟩ = some (.int .u64 ((S.mn : Nat))) := Below.keeps hk.ext _ _ (by simp [go_sem, gG, g4, g5, g6, g7, hGl])
          have c3 : w1.cell? ⟨G, 7, none⟩ = some (.int .u64 ((S.mx : Nat))) := Below.keeps hk.ext _ _ (by simp [go_sem, gG, g4, g5, g6, g7, hGl])
          have c4 : w1.cell? ⟨wr.heap.size, 0, none⟩ = some (.int .u64 ((t.n : Nat))) := Below.keeps hk.ext _ _ (by simp [go_sem, gG, g4, g5, g6, g7, hGl])
          have c5 : w1.cell? ⟨wr.heap.size, 1, none⟩ = some (.int .u64 ((t.s : Nat))) := Below.keeps hk.ext _ _ (by simp [go_sem, gG, g4, g5, g6, g7, hGl])
          have c6 : w1.cell? ⟨wr.heap.size, 2, none⟩ = some (.int .u64 ((t.mn : Nat))) := Below.keeps hk.ext _ _ (by simp [go_sem, gG, g4, g5, g6, g7, hGl])
          have c7 : w1.cell? ⟨wr.heap.size, 3, none⟩ = some (.int .u64 ((t.mx : Nat))) := Below.keeps hk.ext _ _ (by simp [go_sem, gG, g4, g5, g6, g7, hGl])
          simp [Region.wanted, Oper.wp, Act.eval, go_sem, d62, c0, c1, c2, c3, c4, c5, c6, c7, gG, g4, g5, g6, g7, hGl]
          exact hK _ _ (Below.refl _ _) rfl
          | 30, _ =>
          obtain rfl := Option.some.inj hoq
          intro a1 w1 K hk hK
          have e10 : a1.tmps.getD 10 undef = .pointer (some ⟨wr.heap.size, 0, none⟩) := hk.same 10 (by simp)
          simp [Region.wanted, Oper.wp, Act.eval, go_sem, e10, gG, g4, g5, g6, g7, hGl]
          exact hK _ _ (Below.refl _ _) rfl
          | 31, _ =>
          obtain rfl := Option.some.inj hoq
          intro a1 w1 K hk hK
          have d64 : a1.tmps.getD 64 undef = .pointer (some ⟨wr.heap.size, 3, none⟩) := hk.deps ⟨30, .data⟩ (by simp) rfl _ _ rfl rfl
          have c0 : w1.cell? ⟨G, 4, none⟩ = some (.int .u64 ((S.n : Nat))) := Below.keeps hk.ext _ _ (by simp [go_sem, gG, g4, g5, g6, g7, hGl])
          have c1 : w1.cell? ⟨G, 5, none⟩ = some (.int .u64 ((S.s : Nat))) := Below.keeps hk.ext _ _ (by simp [go_sem, gG, g4, g5, g6, g7, hGl])
          have c2 : w1.cell? ⟨G, 6, none⟩ = some (.int .u64 ((S.mn : Nat))) := Below.keeps hk.ext _ _ (by simp [go_sem, gG, g4, g5, g6, g7, hGl])
          have c3 : w1.cell? ⟨G, 7, none⟩ = some (.int .u64 ((S.mx : Nat))) := Below.keeps hk.ext _ _ (by simp [go_sem, gG, g4, g5, g6, g7, hGl])
          have c4 : w1.cell? ⟨wr.heap.size, 0, none⟩ = some (.int .u64 ((t.n : Nat))) := Below.keeps hk.ext _ _ (by simp [go_sem, gG, g4, g5, g6, g7, hGl])
          have c5 : w1.cell? ⟨wr.heap.size, 1, none⟩ = some (.int .u64 ((t.s : Nat))) := Below.keeps hk.ext _ _ (by simp [go_sem, gG, g4, g5, g6, g7, hGl])
          have c6 : w1.cell? ⟨wr.heap.size, 2, none⟩ = some (.int .u64 ((t.mn : Nat))) := Below.keeps hk.ext _ _ (by simp [go_sem, gG, g4, g5, g6, g7, hGl])
          have c7 : w1.cell? ⟨wr.heap.size, 3, none⟩ = some (.int .u64 ((t.mx : Nat))) := Below.keeps hk.ext _ _ (by simp [go_sem, gG, g4, g5, g6, g7, hGl])
          simp [Region.wanted, Oper.wp, Act.eval, go_sem, d64, c0, c1, c2, c3, c4, c5, c6, c7, gG, g4, g5, g6, g7, hGl]
          exact hK _ _ (Below.refl _ _) rfl
          | 32, _ =>
          obtain rfl := Option.some.inj hoq
          intro a1 w1 K hk hK
          have d63 : a1.tmps.getD 63 undef = .int .u64 ((S.mx : Nat)) := hk.deps ⟨29, .data⟩ (by simp) rfl _ _ rfl rfl
          have d65 : a1.tmps.getD 65 undef = .int .u64 ((t.mx : Nat)) := hk.deps ⟨31, .data⟩ (by simp) rfl _ _ rfl rfl
          simp [Region.wanted, Oper.wp, Act.eval, go_sem, d63, d65, gG, g4, g5, g6, g7, hGl]
          exact hK _ _ (Below.refl _ _) rfl
          | 33, _ =>
          obtain rfl := Option.some.inj hoq
          intro a1 w1 K hk hK
          have d42 : a1.tmps.getD 42 undef = .int .u64 (IntKind.u64.wrap ((((S.n : Nat) : Int)) + (((t.n : Nat) : Int)))) := hk.deps ⟨8, .data⟩ (by simp) rfl _ _ rfl rfl
          have d42x : a1.tmps[42]?.getD undef = .int .u64 (IntKind.u64.wrap ((((S.n : Nat) : Int)) + (((t.n : Nat) : Int)))) := by rw [← d42]; simp
          have d50 : a1.tmps.getD 50 undef = .int .u64 (IntKind.u64.wrap ((((S.s : Nat) : Int)) + (((t.s : Nat) : Int)))) := hk.deps ⟨16, .data⟩ (by simp) rfl _ _ rfl rfl
          have d50x : a1.tmps[50]?.getD undef = .int .u64 (IntKind.u64.wrap ((((S.s : Nat) : Int)) + (((t.s : Nat) : Int)))) := by rw [← d50]; simp
          have d58 : a1.tmps.getD 58 undef = .int .u64 (mnI ((S.mn : Nat) : Int) ((t.mn : Nat) : Int)) := hk.deps ⟨24, .data⟩ (by simp) rfl _ _ rfl rfl
          have d58x : a1.tmps[58]?.getD undef = .int .u64 (mnI ((S.mn : Nat) : Int) ((t.mn : Nat) : Int)) := by rw [← d58]; simp
          have d66 : a1.tmps.getD 66 undef = .int .u64 (mxI ((S.mx : Nat) : Int) ((t.mx : Nat) : Int)) := hk.deps ⟨32, .data⟩ (by simp) rfl _ _ rfl rfl
          have d66x : a1.tmps[66]?.getD undef = .int .u64 (mxI ((S.mx : Nat) : Int) ((t.mx : Nat) : Int)) := by rw [← d66]; simp
          simp [Region.wanted, Oper.wp, Act.eval, go_sem, d42, d42x, d50, d50x, d58, d58x, d66, d66x, gG, g4, g5, g6, g7, hGl]
          exact hK _ _ (Below.refl _ _) rfl
          | 34, _ =>
          obtain rfl := Option.some.inj hoq
          intro a1 w1 K hk hK
          have d34 : a1.tmps.getD 34 undef = .pointer (some ⟨G, 0, none⟩) := hk.deps ⟨0, .data⟩ (by simp) rfl _ _ rfl rfl
          simp [Region.wanted, Oper.wp, Act.eval, go_sem, d34, gG, g4, g5, g6, g7, hGl]
          exact hK _ _ (Below.refl _ _) rfl
          | 35, _ =>
          obtain rfl := Option.some.inj hoq
          intro a1 w1 K hk hK
          have d68 : a1.tmps.getD 68 undef = .pointer (some ⟨G, 0, none⟩) := hk.deps ⟨34, .data⟩ (by simp) rfl _ _ rfl rfl
          simp [Region.wanted, Oper.wp, Act.eval, go_sem, d68, gG, g4, g5, g6, g7, hGl]
          exact hK _ _ (Below.refl _ _) rfl
          | k + 36, hk => exact absurd hk (by omega)
        · intro vs w3 hl hb3 hv
          match vs, hl with
          | v0 :: v1 :: v2 :: v3 :: v4 :: v5 :: v6 :: v7 :: v8 :: v9 :: v10 :: v11 :: v12 :: v13 :: v14 :: v15 :: v16 :: v17 :: v18 :: v19 :: v20 :: v21 :: v22 :: v23 :: v24 :: v25 :: v26 :: v27 :: v28 :: v29 :: v30 :: v31 :: v32 :: v33 :: v34 :: v35 :: [], _ =>
          obtain rfl : v0 = .pointer (some ⟨G, 0, none⟩) := hv 0 (by omega)
          obtain rfl : v1 = .pointer (some ⟨G, 0, none⟩) := hv 1 (by omega)
          obtain rfl : v2 = .pointer (some ⟨G, 0, none⟩) := hv 2 (by omega)
          obtain rfl : v3 = .pointer (some ⟨G, 4, none⟩) := hv 3 (by omega)
          obtain rfl : v4 = .pointer (some ⟨G, 4, none⟩) := hv 4 (by omega)
          obtain rfl : v5 = .int .u64 ((S.n : Nat)) := hv 5 (by omega)
          obtain rfl : v6 = .pointer (some ⟨wr.heap.size, 0, none⟩) := hv 6 (by omega)
          obtain rfl : v7 = .int .u64 ((t.n : Nat)) := hv 7 (by omega)
          obtain rfl : v8 = .int .u64 (IntKind.u64.wrap ((((S.n : Nat) : Int)) + (((t.n : Nat) : Int)))) := hv 8 (by omega)
          obtain rfl : v9 = .pointer (some ⟨G, 0, none⟩) := hv 9 (by omega)
          obtain rfl : v10 = .pointer (some ⟨G, 0, none⟩) := hv 10 (by omega)
          obtain rfl : v11 = .pointer (some ⟨G, 4, none⟩) := hv 11 (by omega)
          obtain rfl : v12 = .pointer (some ⟨G, 5, none⟩) := hv 12 (by omega)
          obtain rfl : v13 = .int .u64 ((S.s : Nat)) := hv 13 (by omega)
          obtain rfl : v14 = .pointer (some ⟨wr.heap.size, 1, none⟩) := hv 14 (by omega)
          obtain rfl : v15 = .int .u64 ((t.s : Nat)) := hv 15 (by omega)
          obtain rfl : v16 = .int .u64 (IntKind.u64.wrap ((((S.s : Nat) : Int)) + (((t.s : Nat) : Int)))) := hv 16 (by omega)
          obtain rfl : v17 = .pointer (some ⟨G, 0, none⟩) := hv 17 (by omega)
          obtain rfl : v18 = .pointer (some ⟨G, 0, none⟩) := hv 18 (by omega)
          obtain rfl : v19 = .pointer (some ⟨G, 4, none⟩) := hv 19 (by omega)
          obtain rfl : v20 = .pointer (some ⟨G, 6, none⟩) := hv 20 (by omega)
          obtain rfl : v21 = .int .u64 ((S.mn : Nat)) := hv 21 (by omega)
          obtain rfl : v22 = .pointer (some ⟨wr.heap.size, 2, none⟩) := hv 22 (by omega)
          obtain rfl : v23 = .int .u64 ((t.mn : Nat)) := hv 23 (by omega)
          obtain rfl : v24 = .int .u64 (mnI ((S.mn : Nat) : Int) ((t.mn : Nat) : Int)) := hv 24 (by omega)
          obtain rfl : v25 = .pointer (some ⟨G, 0, none⟩) := hv 25 (by omega)
          obtain rfl : v26 = .pointer (some ⟨G, 0, none⟩) := hv 26 (by omega)
          obtain rfl : v27 = .pointer (some ⟨G, 4, none⟩) := hv 27 (by omega)
          obtain rfl : v28 = .pointer (some ⟨G, 7, none⟩) := hv 28 (by omega)
          obtain rfl : v29 = .int .u64 ((S.mx : Nat)) := hv 29 (by omega)
          obtain rfl : v30 = .pointer (some ⟨wr.heap.size, 3, none⟩) := hv 30 (by omega)
          obtain rfl : v31 = .int .u64 ((t.mx : Nat)) := hv 31 (by omega)
          obtain rfl : v32 = .int .u64 (mxI ((S.mx : Nat) : Int) ((t.mx : Nat) : Int)) := hv 32 (by omega)
          obtain rfl : v33 = .agg #[.int .u64 (IntKind.u64.wrap ((((S.n : Nat) : Int)) + (((t.n : Nat) : Int)))), .int .u64 (IntKind.u64.wrap ((((S.s : Nat) : Int)) + (((t.s : Nat) : Int)))), .int .u64 (mnI ((S.mn : Nat) : Int) ((t.mn : Nat) : Int)), .int .u64 (mxI ((S.mx : Nat) : Int) ((t.mx : Nat) : Int))] := hv 33 (by omega)
          obtain rfl : v34 = .pointer (some ⟨G, 0, none⟩) := hv 34 (by omega)
          obtain rfl : v35 = .pointer (some ⟨G, 4, none⟩) := hv 35 (by omega)
          clear hv
          simp only [putAll, List.take_succ_cons, List.take_zero, List.drop_succ_cons, List.drop_zero, Act.put, List.setIfInBounds_toArray, List.set_cons_succ, List.set_cons_zero]
          have hb4 : Below wr.heap.size wr w3 := below_trans (by repeat (first | exact Below.refl _ _ | (refine Below.drew ?_) | (refine below_drewN' ?_ _) | (refine below_alloc' ?_ _) | (refine Below.setCell ?_ (by first | exact Nat.le_refl _ | (simp; done) | (simp; omega)) _))) hb3
          have hnb3 := HNB.out.stays hb4
          have hGl3 := hnb3.lt
          have g4' : w3.cell? ⟨G, 4, none⟩ = some (.int .u64 (S.n : Nat)) := hnb3.cell 4
          have g5' : w3.cell? ⟨G, 5, none⟩ = some (.int .u64 (S.s : Nat)) := hnb3.cell 5
          have g6' : w3.cell? ⟨G, 6, none⟩ = some (.int .u64 (S.mn : Nat)) := hnb3.cell 6
          have g7' : w3.cell? ⟨G, 7, none⟩ = some (.int .u64 (S.mx : Nat)) := hnb3.cell 7
          have f4 := hnb3.thaw 4
          have f5 := hnb3.thaw 5
          have f6 := hnb3.thaw 6
          have f7 := hnb3.thaw 7
          have HN3 := Lib.hid (And.intro hnb3 hb4)
          clear hnb3 hb4 hb3
          go_wp2_with fail
          go_roundw
          case rel =>
            rw [if_neg h0] at HST
            have hset := HN3.out.1.set (S.add t)
            simp only [Sm.add] at hset HST
            rw [← wrap_add_nat, ← wrap_add_nat, ← mnI_nat, ← mxI_nat] at hset
            refine ⟨j + 1, by omega, (by first | rw [HW.out] | rfl | simp), ?_, below_set4 (HB.out.trans (HN3.out.2.mono HB.out.size)) (by rw [HG.out]; exact Nat.le_refl _), keep_set4 fun a x h1 h2 => Below.keeps HN3.out.2 _ _ (HKP.out a x h1 h2)⟩
            rw [HST.out]
            exact hset
          case measure => (first | (rw [intOf_of' HW.out, intOf_of' rfl]; omega) | (simp [intOf]; omega) | (simp [intOf] <;> omega))
    · have e : cat ((ks.map kl).take j) = cat (ks.map kl) := by rw [List.take_of_length_le (by rw [List.length_map]; omega)]
      have h3 : ¬ (j : Int) < (ks.length : Int) := by omega
      rw [e] at HNB
      clear hnb hb hkp
      go_wp2_with fail
      go_ret
      refine ⟨G, rfl, .node G s n pre ks ⟨HNB.out.cell 0, ⟨_, HNB.out.cell 1, HU.out.below HB.out⟩, HNB.out.cell 2, HNB.out.cell 3, HNB.out.cell 4, HNB.out.cell 5, HNB.out.cell 6, HNB.out.cell 7, ⟨_, HNB.out⟩, ⟨_, HNB.out.cell 1, HTY.out.below HB.out⟩⟩ (HS.out.below HB.out) HK.out (fun x hx => (HN.out x hx).bel HB.out), HB.out⟩
end Go.Proofs.YtdkomhmciihkiaaGreat
/-! NdB -/
namespace Go.Proofs.YtdkomhmciihkiaaGreat
open Go.RowKit
set_option linter.unusedVariables false
set_option linter.unusedSimpArgs false

theorem ins_ks (a bb : Nat) (lk : List En) (ks : List (Nat × Nat × List En)) : (Od.ins ka (a, bb, lk) ks).map kb = Od.ins ka (a, bb) (ks.map kb) ∧ (Od.ins ka (a, bb, lk) ks).map kl = Od.ins ka (a, lk) (ks.map kl) :=
  ⟨Od.ins_map (key := ka) (key' := ka) kb (fun _ => rfl) _ _, Od.ins_map (key := ka) (key' := ka) kl (fun _ => rfl) _ _⟩
/-- a kid below a node: its entries' address is its prefix's -/
theorem Nd.adr {w : World} {k b n : Nat} {l : List En} (h : Nd w k b l) (hl : lev l ≤ n) : ∀ e ∈ l, Zb.addr e.p n = Zb.addr (preL l) n := fun e he => by
  rw [← h.cut e he, Zb.addr_cut _ _ _ hl]
theorem cut_cut (p : List Nat) (n m : Nat) (h : n ≤ m) : Zb.cutN (Zb.cutN p n) m = Zb.cutN p m := by
  unfold Zb.cutN
  rw [List.map_map]
  apply List.map_congr_left
  intro c _
  show c / 2 ^ n * 2 ^ n / 2 ^ m * 2 ^ m = c / 2 ^ m * 2 ^ m
  congr 1
  obtain ⟨j, rfl⟩ : ∃ j, m = n + j := ⟨m - n, by omega⟩
  rw [Nat.pow_add, ← Nat.div_div_eq_div_mul, ← Nat.div_div_eq_div_mul, Nat.mul_div_cancel _ (Nat.two_pow_pos n)]
theorem Nd.cutAt {w : World} {k b n : Nat} {l : List En} (h : Nd w k b l) (hl : lev l ≤ n) : ∀ e ∈ l, Zb.cutN e.p n = Zb.cutN (preL l) n := fun e he => by
  rw [← h.cut e he, cut_cut _ _ _ hl]
/-- a node and a code are handed back -/
def NdT (W : World) (k : Nat) (l : List En) (e : Ending) (w' : World) : Prop := ∃ g, e = .returned (.tuple #[.pointer (some ⟨g, 0, none⟩), .int .i64 0]) ∧ Nd w' k g l ∧ Below W.heap.size W w'
set_option maxRecDepth 100000 in
set_option maxHeartbeats 4000000 in
theorem nwith_any (w : World) (k b s n kbk : Nat) (pre : List Nat) (ks : List (Nat × Nat × List En)) (lk : List En) (h : Hd w b n pre 0 (.pointer (some ⟨s, 0, none⟩)) (sumsL (cat (ks.map kl)))) (hs : SlR w s k (ks.map kb)) (hk : Kd k n pre (ks.map kl))
    (hn : ∀ x ∈ ks, Nd w k x.2.1 x.2.2) (hkid : Nd w k kbk lk) (hc : Zb.cutN (preL lk) (n + 1) = pre) (hlv : lev lk ≤ n) :
    Calls Tryz.prog 176 #[.pointer (some ⟨b, 0, none⟩), .pointer (some ⟨kbk, 0, none⟩)] w fun e w' => NdT w k (cat (Od.ins ka (Zb.addr (preL lk) n, lk) (ks.map kl))) e w' := by
  obtain ⟨q1, q2, q3⟩ := hkid.pre_ok
  obtain ⟨p1, p2, p3⟩ := hk.preLen
  have k1 := hs.k1
  have k16 := hs.k16
  obtain ⟨vv, kp, hh⟩ := hkid.hd
  obtain ⟨u, c1, hu⟩ := h.c1
  obtain ⟨u2, x1, hu2⟩ := hh.c1
  have c0 := h.c0
  have c3 := h.c3
  have x0 := hh.c0
  have hN : Nd w k b (cat (ks.map kl)) := .node b s n pre ks h hs hk hn
  have hcov : cov (cat (ks.map kl)) (preL lk) = true := by unfold cov; rw [hk.lev, hk.preL]; exact decide_eq_true hc
  have HCV := Lib.hid (fun w' (hb : Below w.heap.size w w') => ncov_any w' k b _ (preL lk) u2 (hN.bel hb) (hu2.below hb) q1 q2 k1 k16)
  rw [hcov] at HCV
  have HAT := Lib.hid (fun w' (hb : Below w.heap.size w w') => nat_any w' kbk n (preL lk) u2 (Below.keeps hb _ _ x1) (hu2.below hb) (by omega) (by omega) q2 hk.n64)
  have had : Zb.addr (preL lk) n < 2 ^ k := by rw [← q1]; exact Zb.addr_lt _ _
  have HPUT := Lib.hid (fun w' (hb : Below w.heap.size w w') => put_any s k (Zb.addr (preL lk) n) kbk (ks.map kb) w' (hs.below hb) had)
  obtain ⟨i1, i2⟩ := ins_ks (Zb.addr (preL lk) n) kbk lk ks
  have hset := (hk.set (a := Zb.addr (preL lk) n) hkid.ne hkid.et (fun e he => by rw [hkid.cutAt (Nat.le_succ_of_le hlv) e he, hc]) (hkid.adr hlv)).1
  rw [← i2] at hset
  rw [← i1] at HPUT
  rw [← i2]
  have HMD := Lib.hid (fun w' g u (hb : Below w.heap.size w w') (hu : RdU w' u (pti pre)) (hty : TyB w' u 22) (hsl : SlR w' g k _) => made_any k n g pre u (Od.ins ka (Zb.addr (preL lk) n, kbk, lk) ks) w' hu hty hsl hset (fun x hx => by
    rcases Od.mem_ins hx with rfl | hx
    · exact hkid.bel hb
    · exact (hn x hx).bel hb))
  have HU := Lib.hid hu
  have HTU := Lib.hid (h.ty c1)
  have hlv2 : ((lev lk : Int) - 1) < (n : Int) := by omega
  generalize (lev lk : Int) - 1 = lvk at *
  obtain ⟨ad, hadE⟩ : ∃ ad, Zb.addr (preL lk) n = ad := ⟨_, rfl⟩
  rw [hadE] at HAT HPUT HMD ⊢
  obtain ⟨A, c, rfl, _⟩ := RdU.point hu
  obtain ⟨A2, c2, rfl, _⟩ := RdU.point hu2
  rw [p1] at c1 HU HTU
  rw [q1] at x1 HCV
  have hbl := World.block_lt_of_cell? w _ c0
  have hkl := World.block_lt_of_cell? w _ x0
  obtain ⟨L, hL⟩ : ∃ L, (Od.ins ka (ad, kbk, lk) ks).map kb = L := ⟨_, rfl⟩
  rw [hL] at HPUT HMD
  obtain ⟨LL, hLL⟩ : ∃ LL, (Od.ins ka (ad, kbk, lk) ks).map kl = LL := ⟨_, rfl⟩
  rw [hLL] at HMD ⊢
  have C01 := Lib.hid (And.intro c0 (And.intro c1 c3))
  clear h hs hk hn hkid hc hlv q2 q3 p2 p3 k1 k16 hh hu hu2 hN hcov had hset i1 i2 hadE hL hLL p1 q1
  go_enter Tryz.func176, Tryz.ntmps176
  go_wp2_with fail
  go_quiet (fail)
  generalize hwq : w.drewN nq = wq
  have HBQ := Lib.hid (show Below w.heap.size w wq from hwq ▸ drewN_below _ _)
  clear hwq
  replace c0 := Below.keeps HBQ.out _ _ c0
  replace c1 := Below.keeps HBQ.out _ _ c1
  replace c3 := Below.keeps HBQ.out _ _ c3
  replace x0 := Below.keeps HBQ.out _ _ x0
  replace x1 := Below.keeps HBQ.out _ _ x1
  replace hbl := Nat.lt_of_lt_of_le hbl HBQ.out.size
  replace hkl := Nat.lt_of_lt_of_le hkl HBQ.out.size
  go_wp2_with fail
  go_quiet ((exact Calls.quiet_of_same (HCV.out _ (below_drewN' HBQ.out _))))
  go_wp2_with fail
  have y0 := c0
  have y3 := c3
  clear c0 c3
  refine wp_region_vals 16 [fun z9 _ => z9 = .pointer (some ⟨b, 0, none⟩),
    fun z9 _ => z9 = .pointer (some ⟨b, 0, none⟩),
    fun z9 _ => z9 = .pointer (some ⟨b, 3, none⟩),
    fun z9 _ => z9 = .pointer (some ⟨s, 0, none⟩),
    fun z9 _ => z9 = .pointer (some ⟨kbk, 0, none⟩),
    fun z9 _ => z9 = .pointer (some ⟨b, 0, none⟩),
    fun z9 _ => z9 = .pointer (some ⟨b, 0, none⟩),
    fun z9 _ => z9 = .pointer (some ⟨b, 0, none⟩),
    fun z9 _ => z9 = .int .i64 (n : Nat),
    fun z9 _ => z9 = .int .i64 (ad : Nat),
    fun z9 _ => z9 = .pointer (some ⟨kbk, 0, none⟩),
    fun v9 w9 => ∃ g, v9 = .tuple #[.pointer (some ⟨g, 0, none⟩), .int .i64 0] ∧ SlR w9 g k L,
    fun v9 w9 => ∃ g, v9 = .tuple #[.pointer (some ⟨g, 0, none⟩), .int .i64 0] ∧ SlR w9 g k L,
    fun v9 w9 => ∃ g, v9 = .pointer (some ⟨g, 0, none⟩) ∧ SlR w9 g k L,
    fun v9 w9 => v9 = .int .i64 0,
    fun v9 w9 => ∃ g, v9 = .pointer (some ⟨g, 0, none⟩) ∧ SlR w9 g k L]
    (by kernel_rfl) (by kernel_rfl) (by kernel_rfl) (by kernel_rfl) ?_ ?_ ?_
  · intro V hV v w1 w2 h hb
    simp only [List.mem_cons, List.not_mem_nil, or_false] at hV
    rcases hV with rfl | rfl | rfl | rfl | rfl | rfl | rfl | rfl | rfl | rfl | rfl | rfl | rfl | rfl | rfl | rfl
    all_goals first | exact h | (obtain ⟨g, h1, h2⟩ := h; exact ⟨g, h1, h2.below hb⟩)
  · intro iq oq hiq hoq
    match iq, hiq with
    | 0, _ =>
    obtain rfl := Option.some.inj hoq
    intro a1 w1 K hk hK
    have e0 : a1.tmps.getD 0 undef = .pointer (some ⟨b, 0, none⟩) := hk.same 0 (by simp)
    simp [Region.wanted, Oper.wp, Act.eval, go_sem, e0, y0, y3, hbl]
    exact hK _ _ (Below.refl _ _) rfl
    | 1, _ =>
    obtain rfl := Option.some.inj hoq
    intro a1 w1 K hk hK
    have d53 : a1.tmps.getD 53 undef = .pointer (some ⟨b, 0, none⟩) := hk.deps ⟨0, .data⟩ (by simp) rfl _ _ rfl rfl
    simp [Region.wanted, Oper.wp, Act.eval, go_sem, d53, y0, y3, hbl]
    exact hK _ _ (Below.refl _ _) rfl
    | 2, _ =>
    obtain rfl := Option.some.inj hoq
    intro a1 w1 K hk hK
    have d54 : a1.tmps.getD 54 undef = .pointer (some ⟨b, 0, none⟩) := hk.deps ⟨1, .data⟩ (by simp) rfl _ _ rfl rfl
    simp [Region.wanted, Oper.wp, Act.eval, go_sem, d54, y0, y3, hbl]
    exact hK _ _ (Below.refl _ _) rfl
    | 3, _ =>
    obtain rfl := Option.some.inj hoq
    intro a1 w1 K hk hK
    have d55 : a1.tmps.getD 55 undef = .pointer (some ⟨b, 3, none⟩) := hk.deps ⟨2, .data⟩ (by simp) rfl _ _ rfl rfl
    have c0 : w1.cell? ⟨b, 3, none⟩ = some (.pointer (some ⟨s, 0, none⟩)) := Below.keeps hk.ext _ _ (by simp [go_sem, y0, y3, hbl])
    have c1 : w1.cell? ⟨b, 0, none⟩ = some (.int .i64 (n : Nat)) := Below.keeps hk.ext _ _ (by simp [go_sem, y0, y3, hbl])
    simp [Region.wanted, Oper.wp, Act.eval, go_sem, d55, c0, c1, y0, y3, hbl]
    exact hK _ _ (Below.refl _ _) rfl
    | 4, _ =>
    obtain rfl := Option.some.inj hoq
    intro a1 w1 K hk hK
    have e1 : a1.tmps.getD 1 undef = .pointer (some ⟨kbk, 0, none⟩) := hk.same 1 (by simp)
    simp [Region.wanted, Oper.wp, Act.eval, go_sem, e1, y0, y3, hbl]
    exact hK _ _ (Below.refl _ _) rfl
    | 5, _ =>
    obtain rfl := Option.some.inj hoq
    intro a1 w1 K hk hK
    have e0 : a1.tmps.getD 0 undef = .pointer (some ⟨b, 0, none⟩) := hk.same 0 (by simp)
    simp [Region.wanted, Oper.wp, Act.eval, go_sem, e0, y0, y3, hbl]
    exact hK _ _ (Below.refl _ _) rfl
    | 6, _ =>
    obtain rfl := Option.some.inj hoq
    intro a1 w1 K hk hK
    have d58 : a1.tmps.getD 58 undef = .pointer (some ⟨b, 0, none⟩) := hk.deps ⟨5, .data⟩ (by simp) rfl _ _ rfl rfl
    simp [Region.wanted, Oper.wp, Act.eval, go_sem, d58, y0, y3, hbl]
    exact hK _ _ (Below.refl _ _) rfl
    | 7, _ =>
    obtain rfl := Option.some.inj hoq
    intro a1 w1 K hk hK
    have d59 : a1.tmps.getD 59 undef = .pointer (some ⟨b, 0, none⟩) := hk.deps ⟨6, .data⟩ (by simp) rfl _ _ rfl rfl
    simp [Region.wanted, Oper.wp, Act.eval, go_sem, d59, y0, y3, hbl]
    exact hK _ _ (Below.refl _ _) rfl
    | 8, _ =>
    obtain rfl := Option.some.inj hoq
    intro a1 w1 K hk hK
    have d60 : a1.tmps.getD 60 undef = .pointer (some ⟨b, 0, none⟩) := hk.deps ⟨7, .data⟩ (by simp) rfl _ _ rfl rfl
    have c0 : w1.cell? ⟨b, 3, none⟩ = some (.pointer (some ⟨s, 0, none⟩)) := Below.keeps hk.ext _ _ (by simp [go_sem, y0, y3, hbl])
    have c1 : w1.cell? ⟨b, 0, none⟩ = some (.int .i64 (n : Nat)) := Below.keeps hk.ext _ _ (by simp [go_sem, y0, y3, hbl])
    simp [Region.wanted, Oper.wp, Act.eval, go_sem, d60, c0, c1, y0, y3, hbl]
    exact hK _ _ (Below.refl _ _) rfl
    | 9, _ =>
    obtain rfl := Option.some.inj hoq
    intro a1 w1 K hk hK
    have d57 : a1.tmps.getD 57 undef = .pointer (some ⟨kbk, 0, none⟩) := hk.deps ⟨4, .data⟩ (by simp) rfl _ _ rfl rfl
    have d61 : a1.tmps.getD 61 undef = .int .i64 (n : Nat) := hk.deps ⟨8, .data⟩ (by simp) rfl _ _ rfl rfl
    simp [Region.wanted, Oper.wp, Act.eval, go_sem, d57, d61, y0, y3, hbl]
    refine (HAT.out _ (below_trans (by repeat (first | exact HBQ.out | (refine Below.drew ?_) | (refine below_drewN' ?_ _) | (refine below_alloc' ?_ _) | (refine Below.setCell ?_ (by first | exact Nat.le_refl _ | (have := HBQ.out.size; simp; omega) | (have := HBQ.out.size; omega)) _))) hk.ext)).mono ?_
    rintro e w9 ⟨rfl, rfl⟩
    exact hK _ _ (Below.refl _ _) rfl
    | 10, _ =>
    obtain rfl := Option.some.inj hoq
    intro a1 w1 K hk hK
    have e1 : a1.tmps.getD 1 undef = .pointer (some ⟨kbk, 0, none⟩) := hk.same 1 (by simp)
    simp [Region.wanted, Oper.wp, Act.eval, go_sem, e1, y0, y3, hbl]
    exact hK _ _ (Below.refl _ _) rfl
    | 11, _ =>
    obtain rfl := Option.some.inj hoq
    intro a1 w1 K hk hK
    have d56 : a1.tmps.getD 56 undef = .pointer (some ⟨s, 0, none⟩) := hk.deps ⟨3, .data⟩ (by simp) rfl _ _ rfl rfl
    have d62 : a1.tmps.getD 62 undef = .int .i64 (ad : Nat) := hk.deps ⟨9, .data⟩ (by simp) rfl _ _ rfl rfl
    have d63 : a1.tmps.getD 63 undef = .pointer (some ⟨kbk, 0, none⟩) := hk.deps ⟨10, .data⟩ (by simp) rfl _ _ rfl rfl
    simp [Region.wanted, Oper.wp, Act.eval, go_sem, d56, d62, d63, y0, y3, hbl]
    refine (HPUT.out _ (below_trans (by repeat (first | exact HBQ.out | (refine Below.drew ?_) | (refine below_drewN' ?_ _) | (refine below_alloc' ?_ _) | (refine Below.setCell ?_ (by first | exact Nat.le_refl _ | (have := HBQ.out.size; simp; omega) | (have := HBQ.out.size; omega)) _))) hk.ext)).mono ?_
    rintro e w9 ⟨g9, rfl, hs9, hb9⟩
    exact hK _ _ hb9 ⟨g9, rfl, hs9⟩
    | 12, _ =>
    obtain rfl := Option.some.inj hoq
    intro a1 w1 K hk hK
    have D64 : ∃ g, (a1.tmps.getD 64 undef) = .tuple #[.pointer (some ⟨g, 0, none⟩), .int .i64 0] ∧ SlR w1 g k L := hk.deps ⟨11, .data⟩ (by simp) rfl _ _ rfl rfl
    obtain ⟨g9, e9, hs9⟩ := D64
    have e9x : a1.tmps[64]?.getD undef = .tuple #[.pointer (some ⟨g9, 0, none⟩), .int .i64 0] := by rw [← e9]; simp
    simp [Region.wanted, Oper.wp, Act.eval, go_sem, e9, e9x]
    exact hK _ _ (Below.refl _ _) ⟨g9, rfl, hs9⟩
    | 13, _ =>
    obtain rfl := Option.some.inj hoq
    intro a1 w1 K hk hK
    have D52 : ∃ g, (a1.tmps.getD 52 undef) = .tuple #[.pointer (some ⟨g, 0, none⟩), .int .i64 0] ∧ SlR w1 g k L := hk.deps ⟨12, .data⟩ (by simp) rfl _ _ rfl rfl
    obtain ⟨g9, e9, hs9⟩ := D52
    have e9x : a1.tmps[52]?.getD undef = .tuple #[.pointer (some ⟨g9, 0, none⟩), .int .i64 0] := by rw [← e9]; simp
    simp [Region.wanted, Oper.wp, Act.eval, go_sem, e9, e9x]
    exact hK _ _ (Below.refl _ _) ⟨g9, rfl, hs9⟩
    | 14, _ =>
    obtain rfl := Option.some.inj hoq
    intro a1 w1 K hk hK
    have D52 : ∃ g, (a1.tmps.getD 52 undef) = .tuple #[.pointer (some ⟨g, 0, none⟩), .int .i64 0] ∧ SlR w1 g k L := hk.deps ⟨12, .data⟩ (by simp) rfl _ _ rfl rfl
    obtain ⟨g9, e9, hs9⟩ := D52
    have e9x : a1.tmps[52]?.getD undef = .tuple #[.pointer (some ⟨g9, 0, none⟩), .int .i64 0] := by rw [← e9]; simp
    simp [Region.wanted, Oper.wp, Act.eval, go_sem, e9, e9x]
    exact hK _ _ (Below.refl _ _) rfl
    | 15, _ =>
    obtain rfl := Option.some.inj hoq
    intro a1 w1 K hk hK
    have D65 : ∃ g, (a1.tmps.getD 65 undef) = .pointer (some ⟨g, 0, none⟩) ∧ SlR w1 g k L := hk.deps ⟨13, .data⟩ (by simp) rfl _ _ rfl rfl
    obtain ⟨g9, e9, hs9⟩ := D65
    have e9x : a1.tmps[65]?.getD undef = .pointer (some ⟨g9, 0, none⟩) := by rw [← e9]; simp
    simp [Region.wanted, Oper.wp, Act.eval, go_sem, e9, e9x]
    exact hK _ _ (Below.refl _ _) ⟨g9, rfl, hs9⟩
    | k + 16, hk => exact absurd hk (by omega)
  · intro vs w3 hl hb3 hv
    match vs, hl with
    | [v0, v1, v2, v3, v4, v5, v6, v7, v8, v9, v10, v11, v12, v13, v14, v15], _ =>
    obtain rfl : v0 = .pointer (some ⟨b, 0, none⟩) := hv 0 (by omega)
    obtain rfl : v1 = .pointer (some ⟨b, 0, none⟩) := hv 1 (by omega)
    obtain rfl : v2 = .pointer (some ⟨b, 3, none⟩) := hv 2 (by omega)
    obtain rfl : v3 = .pointer (some ⟨s, 0, none⟩) := hv 3 (by omega)
    obtain rfl : v4 = .pointer (some ⟨kbk, 0, none⟩) := hv 4 (by omega)
    obtain rfl : v5 = .pointer (some ⟨b, 0, none⟩) := hv 5 (by omega)
    obtain rfl : v6 = .pointer (some ⟨b, 0, none⟩) := hv 6 (by omega)
    obtain rfl : v7 = .pointer (some ⟨b, 0, none⟩) := hv 7 (by omega)
    obtain rfl : v8 = .int .i64 (n : Nat) := hv 8 (by omega)
    obtain rfl : v9 = .int .i64 (ad : Nat) := hv 9 (by omega)
    obtain rfl : v10 = .pointer (some ⟨kbk, 0, none⟩) := hv 10 (by omega)
    have q11 : ∃ g, v11 = .tuple #[.pointer (some ⟨g, 0, none⟩), .int .i64 0] ∧ SlR w3 g k L := hv 11 (by omega)
    have q12 : ∃ g, v12 = .tuple #[.pointer (some ⟨g, 0, none⟩), .int .i64 0] ∧ SlR w3 g k L := hv 12 (by omega)
    have q13 : ∃ g, v13 = .pointer (some ⟨g, 0, none⟩) ∧ SlR w3 g k L := hv 13 (by omega)
    have q14 : v14 = .int .i64 0 := hv 14 (by omega)
    have q15 : ∃ g, v15 = .pointer (some ⟨g, 0, none⟩) ∧ SlR w3 g k L := hv 15 (by omega)
    clear hv
    simp only [putAll, List.take_succ_cons, List.take_zero, List.drop_succ_cons, List.drop_zero, Act.put, List.setIfInBounds_toArray, List.set_cons_succ, List.set_cons_zero]
    clear q11 q12 q13
    obtain ⟨g9, rfl, hs9⟩ := q15
    have hb4 : Below w.heap.size w w3 := below_trans (by repeat (first | exact HBQ.out | (refine Below.drew ?_) | (refine below_drewN' ?_ _) | (refine below_alloc' ?_ _) | (refine Below.setCell ?_ (by first | exact Nat.le_refl _ | (have := HBQ.out.size; simp; omega) | (have := HBQ.out.size; omega)) _))) hb3
    have HS9 := Lib.hid (And.intro hs9 hb4)
    clear hs9 hb3 hb4
    generalize w3 = wz at *
    go_wp2_with fail
    have d0 := Below.keeps HS9.out.2 _ _ C01.out.1
    have d1 := Below.keeps HS9.out.2 _ _ C01.out.2.1
    have hbl4 := World.block_lt_of_cell? _ _ d0
    refine wp_region_vals 9 [fun z9 _ => z9 = .pointer (some ⟨b, 0, none⟩),
      fun z9 _ => z9 = .pointer (some ⟨b, 0, none⟩),
      fun z9 _ => z9 = .pointer (some ⟨b, 0, none⟩),
      fun z9 _ => z9 = .int .i64 (n : Nat),
      fun z9 _ => z9 = .pointer (some ⟨b, 0, none⟩),
      fun z9 _ => z9 = .pointer (some ⟨b, 0, none⟩),
      fun z9 _ => z9 = .pointer (some ⟨b, 1, none⟩),
      fun z9 _ => z9 = .slice A k c,
      fun z9 _ => z9 = .pointer (some ⟨g9, 0, none⟩)]
      (by kernel_rfl) (by kernel_rfl) (by kernel_rfl) (by kernel_rfl) ?_ ?_ ?_
    · intro V hV v w1 w2 h hb
      simp only [List.mem_cons, List.not_mem_nil, or_false] at hV
      rcases hV with rfl | rfl | rfl | rfl | rfl | rfl | rfl | rfl | rfl
      all_goals first | exact h | (exact h)
    · intro iq oq hiq hoq
      match iq, hiq with
      | 0, _ =>
      obtain rfl := Option.some.inj hoq
      intro a1 w1 K hk hK
      have e0 : a1.tmps.getD 0 undef = .pointer (some ⟨b, 0, none⟩) := hk.same 0 (by simp)
      simp [Region.wanted, Oper.wp, Act.eval, go_sem, e0, d0, d1, hbl4]
      exact hK _ _ (Below.refl _ _) rfl
      | 1, _ =>
      obtain rfl := Option.some.inj hoq
      intro a1 w1 K hk hK
      have d67 : a1.tmps.getD 67 undef = .pointer (some ⟨b, 0, none⟩) := hk.deps ⟨0, .data⟩ (by simp) rfl _ _ rfl rfl
      simp [Region.wanted, Oper.wp, Act.eval, go_sem, d67, d0, d1, hbl4]
      exact hK _ _ (Below.refl _ _) rfl
      | 2, _ =>
      obtain rfl := Option.some.inj hoq
      intro a1 w1 K hk hK
      have d68 : a1.tmps.getD 68 undef = .pointer (some ⟨b, 0, none⟩) := hk.deps ⟨1, .data⟩ (by simp) rfl _ _ rfl rfl
      simp [Region.wanted, Oper.wp, Act.eval, go_sem, d68, d0, d1, hbl4]
      exact hK _ _ (Below.refl _ _) rfl
      | 3, _ =>
      obtain rfl := Option.some.inj hoq
      intro a1 w1 K hk hK
      have d69 : a1.tmps.getD 69 undef = .pointer (some ⟨b, 0, none⟩) := hk.deps ⟨2, .data⟩ (by simp) rfl _ _ rfl rfl
      have c0 : w1.cell? ⟨b, 0, none⟩ = some (.int .i64 (n : Nat)) := Below.keeps hk.ext _ _ (by simp [go_sem, d0, d1, hbl4])
      have c1 : w1.cell? ⟨b, 1, none⟩ = some (.slice A k c) := Below.keeps hk.ext _ _ (by simp [go_sem, d0, d1, hbl4])
      simp [Region.wanted, Oper.wp, Act.eval, go_sem, d69, c0, c1, d0, d1, hbl4]
      exact hK _ _ (Below.refl _ _) rfl
      | 4, _ =>
      obtain rfl := Option.some.inj hoq
      intro a1 w1 K hk hK
      have e0 : a1.tmps.getD 0 undef = .pointer (some ⟨b, 0, none⟩) := hk.same 0 (by simp)
      simp [Region.wanted, Oper.wp, Act.eval, go_sem, e0, d0, d1, hbl4]
      exact hK _ _ (Below.refl _ _) rfl
      | 5, _ =>
      obtain rfl := Option.some.inj hoq
      intro a1 w1 K hk hK
      have d71 : a1.tmps.getD 71 undef = .pointer (some ⟨b, 0, none⟩) := hk.deps ⟨4, .data⟩ (by simp) rfl _ _ rfl rfl
      simp [Region.wanted, Oper.wp, Act.eval, go_sem, d71, d0, d1, hbl4]
      exact hK _ _ (Below.refl _ _) rfl
      | 6, _ =>
      obtain rfl := Option.some.inj hoq
      intro a1 w1 K hk hK
      have d72 : a1.tmps.getD 72 undef = .pointer (some ⟨b, 0, none⟩) := hk.deps ⟨5, .data⟩ (by simp) rfl _ _ rfl rfl
      simp [Region.wanted, Oper.wp, Act.eval, go_sem, d72, d0, d1, hbl4]
      exact hK _ _ (Below.refl _ _) rfl
      | 7, _ =>
      obtain rfl := Option.some.inj hoq
      intro a1 w1 K hk hK
      have d73 : a1.tmps.getD 73 undef = .pointer (some ⟨b, 1, none⟩) := hk.deps ⟨6, .data⟩ (by simp) rfl _ _ rfl rfl
      have c0 : w1.cell? ⟨b, 0, none⟩ = some (.int .i64 (n : Nat)) := Below.keeps hk.ext _ _ (by simp [go_sem, d0, d1, hbl4])
      have c1 : w1.cell? ⟨b, 1, none⟩ = some (.slice A k c) := Below.keeps hk.ext _ _ (by simp [go_sem, d0, d1, hbl4])
      simp [Region.wanted, Oper.wp, Act.eval, go_sem, d73, c0, c1, d0, d1, hbl4]
      exact hK _ _ (Below.refl _ _) rfl
      | 8, _ =>
      obtain rfl := Option.some.inj hoq
      intro a1 w1 K hk hK
      have e6 : a1.tmps.getD 6 undef = .pointer (some ⟨g9, 0, none⟩) := hk.same 6 (by simp)
      simp [Region.wanted, Oper.wp, Act.eval, go_sem, e6, d0, d1, hbl4]
      exact hK _ _ (Below.refl _ _) rfl
    · intro vs w3 hl hb3 hv
      match vs, hl with
      | [v0, v1, v2, v3, v4, v5, v6, v7, v8], _ =>
      obtain rfl : v0 = .pointer (some ⟨b, 0, none⟩) := hv 0 (by omega)
      obtain rfl : v1 = .pointer (some ⟨b, 0, none⟩) := hv 1 (by omega)
      obtain rfl : v2 = .pointer (some ⟨b, 0, none⟩) := hv 2 (by omega)
      obtain rfl : v3 = .int .i64 (n : Nat) := hv 3 (by omega)
      obtain rfl : v4 = .pointer (some ⟨b, 0, none⟩) := hv 4 (by omega)
      obtain rfl : v5 = .pointer (some ⟨b, 0, none⟩) := hv 5 (by omega)
      obtain rfl : v6 = .pointer (some ⟨b, 1, none⟩) := hv 6 (by omega)
      obtain rfl : v7 = .slice A k c := hv 7 (by omega)
      obtain rfl : v8 = .pointer (some ⟨g9, 0, none⟩) := hv 8 (by omega)
      clear hv
      simp only [putAll, List.take_succ_cons, List.take_zero, List.drop_succ_cons, List.drop_zero, Act.put, List.setIfInBounds_toArray, List.set_cons_succ, List.set_cons_zero]
      have hb5 : Below wz.heap.size wz w3 := below_trans (by repeat (first | exact Below.refl _ _ | (refine Below.drew ?_) | (refine below_drewN' ?_ _) | (refine below_alloc' ?_ _) | (refine Below.setCell ?_ (by first | exact Nat.le_refl _ | (simp; done) | (simp; omega)) _))) hb3
      have hb6 := HS9.out.2.trans (hb5.mono HS9.out.2.size)
      have HM := Lib.hid (And.intro (HMD.out w3 g9 _ hb6 (HU.out.below hb6) (HTU.out.below hb6) (HS9.out.1.below hb5)) hb6)
      clear hb3 hb5 hb6
      go_wp2_with fail
      refine HM.out.1.mono ?_
      rintro e w5 ⟨g5, rfl, hn5, hb5⟩
      have HF := Lib.hid (And.intro hn5 (HM.out.2.trans (hb5.mono HM.out.2.size)))
      clear hn5 hb5
      go_wp2_with fail
      go_ret2
      exact ⟨g5, rfl, HF.out⟩

end Go.Proofs.YtdkomhmciihkiaaGreat
/-! NdC -/
namespace Go.Proofs.YtdkomhmciihkiaaGreat
open Go.RowKit
set_option linter.unusedVariables false
set_option linter.unusedSimpArgs false

def pairKs (aa ab ba bb : Nat) (la lb : List En) : List (Nat × Nat × List En) := Od.ins ka (ab, bb, lb) [(aa, ba, la)]
def pairJ (aa ab ba bb : Nat) (j : Nat) : List (Nat × Nat) := match j with | 0 => [] | 1 => [(aa, ba)] | _ => Od.ins ka (ab, bb) [(aa, ba)]
/-- two that part: their kids -/
theorem pair_kd {w : World} {k ba bb m : Nat} {la lb : List En} (hA : Nd w k ba la) (hB : Nd w k bb lb) (hm : Zb.part (preL la) (preL lb) 64 = m) (h1 : lev la ≤ m) (h2 : lev lb ≤ m) :
    Kd k m (Zb.cutN (preL la) (m + 1)) ((pairKs (Zb.addr (preL la) m) (Zb.addr (preL lb) m) ba bb la lb).map kl) ∧ Zb.addr (preL la) m ≠ Zb.addr (preL lb) m ∧ m < 64 := by
  obtain ⟨q1, q2, q3⟩ := hA.pre_ok
  obtain ⟨r1, r2, r3⟩ := hB.pre_ok
  have hm64 : m < 64 := by have := Zb.part_lt (preL la) (preL lb) 64; omega
  have hag : Zb.agree (preL la) (preL lb) (m + 1) := (Zb.part_agree _ _ _).1 (by omega)
  have hcut : Zb.cutN (preL la) (m + 1) = Zb.cutN (preL lb) (m + 1) := (Zb.cut_agree (by rw [q1, r1]) q2 r2 _).2 hag
  have hne : Zb.addr (preL la) m ≠ Zb.addr (preL lb) m := by
    intro e
    have : Zb.agree (preL la) (preL lb) m := fun j h1 h2 => by
      by_cases h : j = m
      · subst h; exact e
      · exact hag j (by omega) h2
    have := (Zb.part_agree _ _ _).2 this
    omega
  refine ⟨?_, hne, hm64⟩
  have a1 := hA.cutAt (n := m + 1) (by omega)
  have a2 := hA.adr h1
  have b1 := hB.cutAt (n := m + 1) (by omega)
  have b2 := hB.adr h2
  unfold pairKs
  rw [(ins_ks _ _ _ _).2]
  have hz : ∀ (x y : Nat × List En), Od.ins ka x [y] = if y.1 < x.1 then [y, x] else if y.1 = x.1 then [x] else [x, y] := fun x y => by
    unfold Od.ins ka
    split
    · rfl
    · split <;> rfl
  rw [show [(Zb.addr (preL la) m, ba, la)].map kl = [(Zb.addr (preL la) m, la)] from rfl, hz]
  by_cases hlt : Zb.addr (preL la) m < Zb.addr (preL lb) m
  · rw [if_pos hlt]
    exact Kd.pair hm64 hlt hA.ne hB.ne hA.et hB.et a1 (fun e he => by rw [b1 e he, hcut]) a2 b2
  · rw [if_neg hlt, if_neg hne]
    exact Kd.pair hm64 (by omega) hB.ne hA.ne hB.et hA.et (fun e he => by rw [b1 e he, hcut]) a1 b2 a2

set_option maxRecDepth 100000 in
set_option maxHeartbeats 4000000 in
theorem npair_any (w : World) (k ba bb m : Nat) (la lb : List En) (hA : Nd w k ba la) (hB : Nd w k bb lb) (hm : Zb.part (preL la) (preL lb) 64 = m) (h1 : lev la ≤ m) (h2 : lev lb ≤ m) (k1 : 1 ≤ k) (k16 : k ≤ 16) :
    Calls Tryz.prog 116 #[.pointer (some ⟨ba, 0, none⟩), .pointer (some ⟨bb, 0, none⟩)] w fun e w' => NdT w k (cat ((pairKs (Zb.addr (preL la) m) (Zb.addr (preL lb) m) ba bb la lb).map kl)) e w' := by
  obtain ⟨hK, hne, hm64⟩ := pair_kd hA hB hm h1 h2
  obtain ⟨q1, q2, q3⟩ := hA.pre_ok
  obtain ⟨r1, r2, r3⟩ := hB.pre_ok
  obtain ⟨va, kpa, ha⟩ := hA.hd
  obtain ⟨vb, kpb, hb⟩ := hB.hd
  obtain ⟨ua, x1, hua⟩ := ha.c1
  obtain ⟨ub, y1, hub⟩ := hb.c1
  have x0 := ha.c0
  have y0 := hb.c0
  have HP := Lib.hid (fun w' (h : Below w.heap.size w w') => zPart_any (preL la) (preL lb) ua ub w' (hua.below h) (hub.below h) (by rw [q1, r1]) (by omega) (by omega) q2 r2)
  rw [hm] at HP
  have HAA := Lib.hid (fun w' (h : Below w.heap.size w w') => nat_any w' ba m (preL la) ua (Below.keeps h _ _ x1) (hua.below h) (by omega) (by omega) q2 hm64)
  have HAB := Lib.hid (fun w' (h : Below w.heap.size w w') => nat_any w' bb m (preL lb) ub (Below.keeps h _ _ y1) (hub.below h) (by omega) (by omega) r2 hm64)
  have hA2 : Zb.addr (preL la) m < 2 ^ k := by rw [← q1]; exact Zb.addr_lt _ _
  have hB2 : Zb.addr (preL lb) m < 2 ^ k := by rw [← r1]; exact Zb.addr_lt _ _
  have HCT := Lib.hid (fun w' (h : Below w.heap.size w w') => zCut_any (preL la) m ua w' (hua.below h) (by omega) (by omega) q2 hm64)
  have HMD := Lib.hid (fun w' g u (hb : Below w.heap.size w w') (hu : RdU w' u (pti (Zb.cutN (preL la) (m + 1)))) (hty : TyB w' u 22) (hsl : SlR w' g k _) => made_any k m g (Zb.cutN (preL la) (m + 1)) u (pairKs (Zb.addr (preL la) m) (Zb.addr (preL lb) m) ba bb la lb) w' hu hty hsl hK (fun x hx => by
    rcases Od.mem_ins hx with rfl | hx
    · exact hB.bel hb
    · obtain rfl : x = _ := List.mem_singleton.1 hx
      exact hA.bel hb))
  rw [show (pairKs (Zb.addr (preL la) m) (Zb.addr (preL lb) m) ba bb la lb).map kb = pairJ (Zb.addr (preL la) m) (Zb.addr (preL lb) m) ba bb 2 from (ins_ks _ _ _ _).1] at HMD
  obtain ⟨aa, haa⟩ : ∃ aa, Zb.addr (preL la) m = aa := ⟨_, rfl⟩
  obtain ⟨ab, hab⟩ : ∃ ab, Zb.addr (preL lb) m = ab := ⟨_, rfl⟩
  rw [haa] at HAA hA2
  rw [hab] at HAB hB2
  rw [haa, hab] at HMD ⊢
  obtain ⟨LL, hLL⟩ : ∃ LL, (pairKs aa ab ba bb la lb).map kl = LL := ⟨_, rfl⟩
  rw [hLL] at HMD ⊢
  obtain ⟨CC, hCC⟩ : ∃ CC, Zb.cutN (preL la) (m + 1) = CC := ⟨_, rfl⟩
  rw [hCC] at HCT HMD
  have HPU := Lib.hid (fun (g : Nat) (w' : World) (h : SlR w' g k (pairJ aa ab ba bb 0)) => put_any g k aa ba _ w' h hA2)
  have HPU2 := Lib.hid (fun (g : Nat) (w' : World) (h : SlR w' g k (pairJ aa ab ba bb 1)) => put_any g k ab bb _ w' h hB2)
  rw [show Od.ins ka (aa, ba) (pairJ aa ab ba bb 0) = pairJ aa ab ba bb 1 from rfl] at HPU
  rw [show Od.ins ka (ab, bb) (pairJ aa ab ba bb 1) = pairJ aa ab ba bb 2 from rfl] at HPU2
  have HNW := Lib.hid (fun w' => snew_any k w' k1 k16)
  rw [show ([] : List (Nat × Nat)) = pairJ aa ab ba bb 0 from rfl] at HNW
  have hmx : ¬ ((m : Int) ≤ max ((lev la : Int) - 1) ((lev lb : Int) - 1)) := by omega
  obtain ⟨lva, hlva⟩ : ∃ z, (lev la : Int) - 1 = z := ⟨_, rfl⟩
  obtain ⟨lvb, hlvb⟩ : ∃ z, (lev lb : Int) - 1 = z := ⟨_, rfl⟩
  rw [hlva] at x0 hmx
  rw [hlvb] at y0 hmx
  obtain ⟨A, c, rfl, _⟩ := RdU.point hua
  obtain ⟨A2, c2, rfl, _⟩ := RdU.point hub
  rw [q1] at x1 HP HCT
  rw [r1] at y1 HP
  have hal := World.block_lt_of_cell? w _ x0
  have hbl := World.block_lt_of_cell? w _ y0
  have XX := Lib.hid x1
  generalize pairJ aa ab ba bb = PJ at *
  clear hA hB hm h1 h2 k1 k16 hK hne hm64 q1 q2 q3 r1 r2 r3 ha hb hua hub hA2 hB2 haa hab hLL hCC hlva hlvb
  go_enter Tryz.func116, Tryz.ntmps116
  go_wp2_with fail
  go_quiet ((exact Calls.quiet_of_same (HP.out _ (drewN_below _ _))))
  generalize hwq : w.drewN nq = wq
  have HBQ := Lib.hid (show Below w.heap.size w wq from hwq ▸ drewN_below _ _)
  clear hwq
  replace x0 := Below.keeps HBQ.out _ _ x0
  replace x1 := Below.keeps HBQ.out _ _ x1
  replace y0 := Below.keeps HBQ.out _ _ y0
  replace y1 := Below.keeps HBQ.out _ _ y1
  replace hal := Nat.lt_of_lt_of_le hal HBQ.out.size
  replace hbl := Nat.lt_of_lt_of_le hbl HBQ.out.size
  go_wp2_with fail
  go_quiet (fail)
  go_wp2_with fail
  refine (HNW.out _).mono ?_
  rintro e w3 ⟨g3, rfl, hs3, hb3⟩
  have hbq : Below w.heap.size w (wq.drewN nq) := (by repeat (first | exact HBQ.out | (refine Below.drew ?_) | (refine below_drewN' ?_ _) | (refine below_alloc' ?_ _) | (refine Below.setCell ?_ (by first | exact Nat.le_refl _ | (have := HBQ.out.size; simp; omega) | (have := HBQ.out.size; omega)) _)))
  have HS3 := Lib.hid (And.intro hs3 (show Below w.heap.size w w3 from hbq.trans (hb3.mono hbq.size)))
  clear hbq
  clear hs3 hb3
  go_wp2_with fail
  obtain ⟨R, hR⟩ : ∃ R, w3.heap.size = R := ⟨_, rfl⟩
  have hr0 : (w3.alloc (.cells #[.pointer (some ⟨ba, 0, none⟩), .pointer (some ⟨bb, 0, none⟩)] 113)).cell? ⟨R, 0, none⟩ = some (.pointer (some ⟨ba, 0, none⟩)) := by rw [← hR]; simp [go_sem]
  have hr1 : (w3.alloc (.cells #[.pointer (some ⟨ba, 0, none⟩), .pointer (some ⟨bb, 0, none⟩)] 113)).cell? ⟨R, 1, none⟩ = some (.pointer (some ⟨bb, 0, none⟩)) := by rw [← hR]; simp [go_sem]
  have hs4 := HS3.out.1.below (w' := w3.alloc (.cells #[.pointer (some ⟨ba, 0, none⟩), .pointer (some ⟨bb, 0, none⟩)] 113)) (below_alloc' (Below.refl _ _) _)
  have hb4 := below_alloc' HS3.out.2 (.cells #[.pointer (some ⟨ba, 0, none⟩), .pointer (some ⟨bb, 0, none⟩)] 113)
  simp only [hR]
  generalize w3.alloc (.cells #[.pointer (some ⟨ba, 0, none⟩), .pointer (some ⟨bb, 0, none⟩)] 113) = w4 at *
  have H4 := Lib.hid (And.intro hr0 (And.intro hr1 (And.intro hs4 hb4)))
  clear hr0 hr1 hs4 hb4 hR x0 y0 x1 y1 hal hbl hmx
  go_loopw [8, 11, 59] (fun s8 _ s59 wr => ∃ (j g : Nat), j ≤ 2 ∧ s59 = .int .i64 j ∧ s8 = .pointer (some ⟨g, 0, none⟩) ∧ SlR wr g k (PJ j) ∧ Below w4.heap.size w4 wr) (fun _ _ i _ => 2 - (intOf i).toNat)
  case atStart => exact ⟨0, g3, by omega, rfl, rfl, H4.out.2.2.1, Below.refl _ _⟩
  case round =>
    obtain ⟨j, g, hj, rfl, rfl, hsl, hb⟩ := hrel
    have HB := Lib.hid hb
    have HSL := Lib.hid hsl
    have HBw := Lib.hid (H4.out.2.2.2.trans (hb.mono H4.out.2.2.2.size))
    clear hsl
    by_cases hj0 : j = 0
    · subst hj0
      have k0 := Below.keeps hb _ _ H4.out.1
      have hlb := World.block_lt_of_cell? wr _ k0
      clear hb
      go_wp2_with fail
      refine (HAA.out _ HBw.out).mono ?_
      rintro e w5 ⟨rfl, hw⟩
      obtain rfl := hw.symm
      go_wp2_with fail
      refine (HPU.out _ _ HSL.out).mono ?_
      rintro e w5 ⟨g5, rfl, hs5, hb5⟩
      have H5 := Lib.hid (And.intro hs5 (HB.out.trans (hb5.mono HB.out.size)))
      clear hs5 hb5
      go_wp2_with fail
      go_roundw
      case rel => exact ⟨1, g5, by omega, rfl, rfl, H5.out.1, H5.out.2⟩
      case measure => simp [intOf]
    · by_cases hj1 : j = 1
      · subst hj1
        have k0 := Below.keeps hb _ _ H4.out.2.1
        have hlb := World.block_lt_of_cell? wr _ k0
        clear hb
        go_wp2_with fail
        refine (HAB.out _ HBw.out).mono ?_
        rintro e w5 ⟨rfl, hw⟩
        obtain rfl := hw.symm
        go_wp2_with fail
        refine (HPU2.out _ _ HSL.out).mono ?_
        rintro e w5 ⟨g5, rfl, hs5, hb5⟩
        have H5 := Lib.hid (And.intro hs5 (HB.out.trans (hb5.mono HB.out.size)))
        clear hs5 hb5
        go_wp2_with fail
        go_roundw
        case rel => exact ⟨2, g5, by omega, rfl, rfl, H5.out.1, H5.out.2⟩
        case measure => simp [intOf]
      · obtain rfl : j = 2 := by omega
        have x1 := Below.keeps HBw.out _ _ XX.out
        have hal := World.block_lt_of_cell? _ _ x1
        clear hb
        go_wp2_with fail
        refine (HCT.out _ HBw.out).mono ?_
        rintro e w5 ⟨u5, rfl, hp5, hb5⟩
        have H5 := Lib.hid (And.intro hp5 (And.intro (HSL.out.below hb5) (HBw.out.trans (hb5.mono HBw.out.size))))
        obtain ⟨A5, c5, e5, _⟩ := RdU.point hp5.rd
        subst e5
        clear hp5 hb5
        go_wp2_with fail
        refine (HMD.out _ _ _ H5.out.2.2 H5.out.1.rd H5.out.1.tyB H5.out.2.1).mono ?_
        rintro e w6 ⟨g6, rfl, hn6, hb6⟩
        have HF := Lib.hid (And.intro hn6 (H5.out.2.2.trans (hb6.mono H5.out.2.2.size)))
        clear hn6 hb6
        go_wp2_with fail
        go_ret2
        exact ⟨g6, rfl, HF.out⟩
end Go.Proofs.YtdkomhmciihkiaaGreat
/-! NdD -/
namespace Go.Proofs.YtdkomhmciihkiaaGreat
open Go.RowKit
set_option linter.unusedVariables false
set_option linter.unusedSimpArgs false

theorem PtNew.set {w : World} {u x : Value} {p : List Nat} {g j : Nat} {cur : Array Value} {t : TypeId} {fr : Nat × Nat} (h : PtNew w u p) (hg : w.heap[g]? = some (.cells cur t fr)) (ht : t ≠ 22) : PtNew (w.setCell ⟨g, j, none⟩ x) u p :=
  h.keepBlock fun b c f hb => kr_far (by
    intro e; subst e
    rw [hb] at hg
    injection hg with hg
    injection hg with _ hg _
    exact ht hg.symm)
/-- what Entry of a leaf hands back -/
def EntP (W : World) (p : List Nat) (v : Nat) (e : Ending) (w' : World) : Prop := ∃ u, e = .returned (.tuple #[.agg #[u, .int .u64 (v : Nat)], .bool true]) ∧ PtNew w' u p ∧ Below W.heap.size W w'
set_option maxRecDepth 100000 in
set_option maxHeartbeats 2000000 in
theorem ent_leaf (w : World) (b k v : Nat) (lv : Int) (pr : List Nat) (s : Sm) (h : Hd w b lv pr v (.pointer none) s) (hpk : pr.length = k) (k1 : 1 ≤ k) (k16 : k ≤ 16) :
    Calls Tryz.prog 120 #[.pointer (some ⟨b, 0, none⟩)] w fun e w' => EntP w pr v e w' := by
  obtain ⟨u, y1, hu⟩ := h.c1
  have y2 := h.c2
  have y3 := h.c3
  have hbl := World.block_lt_of_cell? w _ y2
  have HCL := Lib.hid (fun w' (hb : Below w.heap.size w w') => clone_any pr u w' (hu.below hb) (by omega) (by omega))
  obtain ⟨A, c, rfl, _⟩ := RdU.point hu
  rw [hpk] at y1 HCL
  clear h hu hpk k1 k16
  go_enter Tryz.func120, Tryz.ntmps120
  go_wp2_with fail
  have hbn : ¬ w.heap.size = b := by omega
  refine wp_region_vals 10 [fun z9 _ => z9 = .pointer (some ⟨b, 0, none⟩),
    fun z9 _ => z9 = .pointer (some ⟨b, 0, none⟩),
    fun z9 _ => z9 = .pointer (some ⟨b, 1, none⟩),
    fun z9 _ => z9 = .slice A k c,
    fun v9 w9 => PtNew w9 v9 pr,
    fun z9 _ => z9 = .pointer (some ⟨b, 0, none⟩),
    fun z9 _ => z9 = .pointer (some ⟨b, 0, none⟩),
    fun z9 _ => z9 = .pointer (some ⟨b, 2, none⟩),
    fun z9 _ => z9 = .int .u64 (v : Nat),
    fun v9 w9 => ∃ u, v9 = .agg #[u, .int .u64 (v : Nat)] ∧ PtNew w9 u pr]
    (by kernel_rfl) (by kernel_rfl) (by kernel_rfl) (by kernel_rfl) ?_ ?_ ?_
  · intro V hV v w1 w2 h hb
    simp only [List.mem_cons, List.not_mem_nil, or_false] at hV
    rcases hV with rfl | rfl | rfl | rfl | rfl | rfl | rfl | rfl | rfl | rfl
    all_goals first | exact h | (first | exact PtNew.below h hb | (obtain ⟨u, h1, h2⟩ := h; exact ⟨u, h1, h2.below hb⟩))
  · intro iq oq hiq hoq
    match iq, hiq with
    | 0, _ =>
    obtain rfl := Option.some.inj hoq
    intro a1 w1 K hk hK
    have e0 : a1.tmps.getD 0 undef = .pointer (some ⟨b, 0, none⟩) := hk.same 0 (by simp)
    simp [Region.wanted, Oper.wp, Act.eval, go_sem, e0, y1, y2, hbl, hbn]
    exact hK _ _ (Below.refl _ _) rfl
    | 1, _ =>
    obtain rfl := Option.some.inj hoq
    intro a1 w1 K hk hK
    have d14 : a1.tmps.getD 14 undef = .pointer (some ⟨b, 0, none⟩) := hk.deps ⟨0, .data⟩ (by simp) rfl _ _ rfl rfl
    simp [Region.wanted, Oper.wp, Act.eval, go_sem, d14, y1, y2, hbl, hbn]
    exact hK _ _ (Below.refl _ _) rfl
    | 2, _ =>
    obtain rfl := Option.some.inj hoq
    intro a1 w1 K hk hK
    have d15 : a1.tmps.getD 15 undef = .pointer (some ⟨b, 0, none⟩) := hk.deps ⟨1, .data⟩ (by simp) rfl _ _ rfl rfl
    simp [Region.wanted, Oper.wp, Act.eval, go_sem, d15, y1, y2, hbl, hbn]
    exact hK _ _ (Below.refl _ _) rfl
    | 3, _ =>
    obtain rfl := Option.some.inj hoq
    intro a1 w1 K hk hK
    have d16 : a1.tmps.getD 16 undef = .pointer (some ⟨b, 1, none⟩) := hk.deps ⟨2, .data⟩ (by simp) rfl _ _ rfl rfl
    have c0 : w1.cell? ⟨b, 1, none⟩ = some (.slice A k c) := Below.keeps hk.ext _ _ (by simp [go_sem, y1, y2, hbl, hbn])
    have c1 : w1.cell? ⟨b, 2, none⟩ = some (.int .u64 (v : Nat)) := Below.keeps hk.ext _ _ (by simp [go_sem, y1, y2, hbl, hbn])
    simp [Region.wanted, Oper.wp, Act.eval, go_sem, d16, c0, c1, y1, y2, hbl, hbn]
    exact hK _ _ (Below.refl _ _) rfl
    | 4, _ =>
    obtain rfl := Option.some.inj hoq
    intro a1 w1 K hk hK
    have d17 : a1.tmps.getD 17 undef = .slice A k c := hk.deps ⟨3, .data⟩ (by simp) rfl _ _ rfl rfl
    simp [Region.wanted, Oper.wp, Act.eval, go_sem, d17, y1, y2, hbl, hbn]
    refine (HCL.out _ (below_trans (by repeat (first | exact Below.refl _ _ | (refine Below.drew ?_) | (refine below_drewN' ?_ _) | (refine below_alloc' ?_ _) | (refine Below.setCell ?_ (by first | exact Nat.le_refl _ | (simp; done) | (simp; omega)) _))) hk.ext)).mono ?_
    rintro e w9 ⟨u9, rfl, h9, hb9⟩
    exact hK _ _ hb9 h9
    | 5, _ =>
    obtain rfl := Option.some.inj hoq
    intro a1 w1 K hk hK
    have e0 : a1.tmps.getD 0 undef = .pointer (some ⟨b, 0, none⟩) := hk.same 0 (by simp)
    simp [Region.wanted, Oper.wp, Act.eval, go_sem, e0, y1, y2, hbl, hbn]
    exact hK _ _ (Below.refl _ _) rfl
    | 6, _ =>
    obtain rfl := Option.some.inj hoq
    intro a1 w1 K hk hK
    have d19 : a1.tmps.getD 19 undef = .pointer (some ⟨b, 0, none⟩) := hk.deps ⟨5, .data⟩ (by simp) rfl _ _ rfl rfl
    simp [Region.wanted, Oper.wp, Act.eval, go_sem, d19, y1, y2, hbl, hbn]
    exact hK _ _ (Below.refl _ _) rfl
    | 7, _ =>
    obtain rfl := Option.some.inj hoq
    intro a1 w1 K hk hK
    have d20 : a1.tmps.getD 20 undef = .pointer (some ⟨b, 0, none⟩) := hk.deps ⟨6, .data⟩ (by simp) rfl _ _ rfl rfl
    simp [Region.wanted, Oper.wp, Act.eval, go_sem, d20, y1, y2, hbl, hbn]
    exact hK _ _ (Below.refl _ _) rfl
    | 8, _ =>
    obtain rfl := Option.some.inj hoq
    intro a1 w1 K hk hK
    have d21 : a1.tmps.getD 21 undef = .pointer (some ⟨b, 2, none⟩) := hk.deps ⟨7, .data⟩ (by simp) rfl _ _ rfl rfl
    have c0 : w1.cell? ⟨b, 1, none⟩ = some (.slice A k c) := Below.keeps hk.ext _ _ (by simp [go_sem, y1, y2, hbl, hbn])
    have c1 : w1.cell? ⟨b, 2, none⟩ = some (.int .u64 (v : Nat)) := Below.keeps hk.ext _ _ (by simp [go_sem, y1, y2, hbl, hbn])
    simp [Region.wanted, Oper.wp, Act.eval, go_sem, d21, c0, c1, y1, y2, hbl, hbn]
    exact hK _ _ (Below.refl _ _) rfl
    | 9, _ =>
    obtain rfl := Option.some.inj hoq
    intro a1 w1 K hk hK
    have D18 : PtNew w1 (a1.tmps.getD 18 undef) pr := hk.deps ⟨4, .data⟩ (by simp) rfl _ _ rfl rfl
    have d22 : a1.tmps.getD 22 undef = .int .u64 (v : Nat) := hk.deps ⟨8, .data⟩ (by simp) rfl _ _ rfl rfl
    have d22x : a1.tmps[22]?.getD undef = .int .u64 (v : Nat) := by rw [← d22]; simp
    obtain ⟨A9, c9, e18, _⟩ := RdU.point D18.rd
    have e18x : a1.tmps[18]?.getD undef = .slice A9 pr.length c9 := by rw [← e18]; simp
    rw [e18] at D18
    have d22x : a1.tmps[22]?.getD undef = .int .u64 (v : Nat) := by rw [← d22]; simp
    simp [Region.wanted, Oper.wp, Act.eval, go_sem, d22, d22x, e18, e18x]
    exact hK _ _ (Below.refl _ _) ⟨_, rfl, D18⟩
  · intro vs w3 hl hb3 hv
    match vs, hl with
    | [v0, v1, v2, v3, v4, v5, v6, v7, v8, v9], _ =>
    obtain rfl : v0 = .pointer (some ⟨b, 0, none⟩) := hv 0 (by omega)
    obtain rfl : v1 = .pointer (some ⟨b, 0, none⟩) := hv 1 (by omega)
    obtain rfl : v2 = .pointer (some ⟨b, 1, none⟩) := hv 2 (by omega)
    obtain rfl : v3 = .slice A k c := hv 3 (by omega)
    have q4 : PtNew w3 v4 pr := hv 4 (by omega)
    obtain rfl : v5 = .pointer (some ⟨b, 0, none⟩) := hv 5 (by omega)
    obtain rfl : v6 = .pointer (some ⟨b, 0, none⟩) := hv 6 (by omega)
    obtain rfl : v7 = .pointer (some ⟨b, 2, none⟩) := hv 7 (by omega)
    obtain rfl : v8 = .int .u64 (v : Nat) := hv 8 (by omega)
    have q9 : ∃ u, v9 = .agg #[u, .int .u64 (v : Nat)] ∧ PtNew w3 u pr := hv 9 (by omega)
    clear hv
    simp only [putAll, List.take_succ_cons, List.take_zero, List.drop_succ_cons, List.drop_zero, Act.put, List.setIfInBounds_toArray, List.set_cons_succ, List.set_cons_zero]
    clear q4
    obtain ⟨u, rfl, hpt⟩ := q9
    have hb4 : Below w.heap.size w w3 := below_trans (by repeat (first | exact Below.refl _ _ | (refine Below.drew ?_) | (refine below_drewN' ?_ _) | (refine below_alloc' ?_ _) | (refine Below.setCell ?_ (by first | exact Nat.le_refl _ | (simp; done) | (simp; omega)) _))) hb3
    have hblk : w3.heap[w.heap.size]? = some (.cells #[.slice none 0 0, .int .u64 0] 35 (0, 0)) := (hb3.block _ (by simp)).trans (by show (w.heap.push _)[w.heap.size]? = _; simp)
    have k0 : w3.cell? ⟨w.heap.size, 0, none⟩ = some (.slice none 0 0) := by simp only [World.cell?, hblk]; simp
    have k1 : w3.cell? ⟨w.heap.size, 1, none⟩ = some (.int .u64 0) := by simp only [World.cell?, hblk]; simp
    have f0 : w3.frozen? ⟨w.heap.size, 0, none⟩ = false := by simp [World.frozen?, hblk]
    have f1 : w3.frozen? ⟨w.heap.size, 1, none⟩ = false := by simp [World.frozen?, hblk]
    have hlt := kr_lt hblk
    have hset := (hpt.set (j := 0) (x := u) hblk (by decide)).set (j := 1) (x := .int .u64 (v : Nat)) (kr_set hblk) (by decide)
    obtain ⟨A9, c9, rfl, _⟩ := RdU.point hpt.rd
    have HF := Lib.hid (And.intro hset ((hb4.setCell (p := ⟨w.heap.size, 0, none⟩) (Nat.le_refl _) (.slice A9 pr.length c9)).setCell (p := ⟨w.heap.size, 1, none⟩) (Nat.le_refl _) (.int .u64 (v : Nat))))
    clear hpt hset hb3 hb4 hblk
    go_wp2_with fail
    refine bodyPost_ret (v := .tuple #[.agg #[.slice A9 pr.length c9, .int .u64 (v : Nat)], .bool true]) (by simp [results, Tryz.results120, go_sem, k0, k1]) rfl ⟨_, rfl, HF.out⟩
set_option maxRecDepth 100000 in
theorem ent_node (w : World) (b s : Nat) (y3 : w.cell? ⟨b, 3, none⟩ = some (.pointer (some ⟨s, 0, none⟩))) :
    Calls Tryz.prog 120 #[.pointer (some ⟨b, 0, none⟩)] w fun e w' => e = .returned (.tuple #[.agg #[.slice none 0 0, .int .u64 0], .bool false]) ∧ Below w.heap.size w w' := by
  have hbl := World.block_lt_of_cell? w _ y3
  go_enter Tryz.func120, Tryz.ntmps120
  go_wp2_with fail
  refine bodyPost_ret (v := .tuple #[.agg #[.slice none 0 0, .int .u64 0], .bool false]) (by simp [results, Tryz.results120, go_sem]) rfl ⟨rfl, (by repeat (first | exact Below.refl _ _ | (refine Below.drew ?_) | (refine below_drewN' ?_ _) | (refine below_alloc' ?_ _) | (refine Below.setCell ?_ (by first | exact Nat.le_refl _ | (simp; done) | (simp; omega)) _)))⟩
theorem OwnV.keepBlock {t : TypeId} {W w w' : World} {v : Value} {l : List Value} (h : OwnV t W w v l) (hk : ∀ (b : Nat) (cur : Array Value), w.heap[b]? = some (Obj.cells cur t (0, 0)) → w'.heap[b]? = w.heap[b]?) : OwnV t W w' v l := by
  obtain ⟨h1, h2⟩ := h
  refine ⟨h1, ?_⟩
  rcases h2 with h2 | ⟨g, cap, cur, q1, q2, q3, q4⟩
  · exact .inl h2
  · exact .inr ⟨g, cap, cur, q1, q2, (hk g cur q3).trans q3, q4⟩
theorem OwnV.set {T : TypeId} {W w : World} {u x : Value} {l : List Value} {g j : Nat} {cur : Array Value} {t : TypeId} {fr : Nat × Nat} (h : OwnV T W w u l) (hg : w.heap[g]? = some (.cells cur t fr)) (ht : t ≠ T) : OwnV T W (w.setCell ⟨g, j, none⟩ x) u l :=
  h.keepBlock fun b c hb => kr_far (by
    intro e; subst e
    rw [hb] at hg
    injection hg with hg
    injection hg with _ hg _
    exact ht hg.symm)
/-- a shape is handed back -/
structure ShV (W w : World) (s : Sh) (x : Value) : Prop where
  ex : ∃ u p9, x = .agg #[.int .i64 s.lv, u, p9, .bool s.dense, .int .u64 (s.v : Nat)] ∧ PtNew w u s.pre ∧ OwnV 3 W w p9 (s.pl.map fun (x : Nat) => Value.int .i64 (x : Nat))
end Go.Proofs.YtdkomhmciihkiaaGreat
/-! TrA -/
namespace Go.Proofs.YtdkomhmciihkiaaGreat
open Go.RowKit
set_option linter.unusedVariables false
set_option linter.unusedSimpArgs false

/-- the tree at block b: k coordinates, the entries l -/
structure TrR (w : World) (b k : Nat) (l : List En) : Prop where
  c0 : w.cell? ⟨b, 0, none⟩ = some (.int .i64 (k : Nat))
  c1 : ∃ r, w.cell? ⟨b, 1, none⟩ = some (pv r) ∧ RtN w k r l
  k1 : 1 ≤ k
  k16 : k ≤ 16
  blk : ∃ cur, w.heap[b]? = some (.cells cur 194 (0, 0))
theorem TrR.bel {w w' : World} {b k : Nat} {l : List En} (h : TrR w b k l) (hb : Below w.heap.size w w') : TrR w' b k l := by
  have hl := World.block_lt_of_cell? w _ h.c0
  obtain ⟨h0, ⟨r, h1, h2⟩, h3, h4, cur, h5⟩ := h
  exact ⟨Below.keeps hb _ _ h0, ⟨r, Below.keeps hb _ _ h1, h2.below hb⟩, h3, h4, cur, (hb.block b hl).trans h5⟩
theorem RtN.et {w : World} {k : Nat} {r : Option Nat} {l : List En} (h : RtN w k r l) : Et k l := by
  cases r with
  | none => obtain rfl : l = [] := h; exact Et.nil k
  | some b => exact Nd.et h
theorem TrR.et {w : World} {b k : Nat} {l : List En} (h : TrR w b k l) : Et k l := by obtain ⟨r, _, h2⟩ := h.c1; exact h2.et
/-- the nodes on a point's way from a list's down to a list's -/
inductive Chain (w : World) (k : Nat) (p : List Nat) : List Nat → List En → List En → Prop
  | nil (l : List En) : Chain w k p [] l l
  | snoc (bs : List Nat) (l : List En) (b s n : Nat) (pre : List Nat) (ks : List (Nat × Nat × List En)) (sub : Chain w k p bs l (cat (ks.map kl))) (h : Hd w b n pre 0 (.pointer (some ⟨s, 0, none⟩)) (sumsL (cat (ks.map kl))))
      (hs : SlR w s k (ks.map kb)) (hk : Kd k n pre (ks.map kl)) (hn : ∀ x ∈ ks, Nd w k x.2.1 x.2.2) (hc : Zb.cutN p (n + 1) = pre) : Chain w k p (bs ++ [b]) l (kidOf (Zb.addr p n) (ks.map kl))
theorem Chain.bel {w w' : World} {k : Nat} {p : List Nat} {bs : List Nat} {l lr : List En} (h : Chain w k p bs l lr) (hb : Below w.heap.size w w') : Chain w' k p bs l lr := by
  induction h with
  | nil l => exact .nil l
  | snoc bs l b s n pre ks sub h hs hk hn hc ih => exact .snoc bs l b s n pre ks ih (h.keep hb) (hs.below hb) hk (fun x hx => (hn x hx).bel hb) hc
theorem Chain.inv {w : World} {k : Nat} {p : List Nat} {bs : List Nat} {b : Nat} {l lr : List En} (h : Chain w k p (bs ++ [b]) l lr) :
    ∃ (s n : Nat) (pre : List Nat) (ks : List (Nat × Nat × List En)), Chain w k p bs l (cat (ks.map kl)) ∧ Hd w b n pre 0 (.pointer (some ⟨s, 0, none⟩)) (sumsL (cat (ks.map kl))) ∧ SlR w s k (ks.map kb) ∧ Kd k n pre (ks.map kl) ∧ (∀ x ∈ ks, Nd w k x.2.1 x.2.2) ∧ Zb.cutN p (n + 1) = pre ∧ lr = kidOf (Zb.addr p n) (ks.map kl) := by
  generalize hbs : bs ++ [b] = ys at h
  cases h with
  | nil => simp at hbs
  | snoc bs' _ b' s n pre ks sub h hs hk hn hc =>
    obtain ⟨e1, e2⟩ := List.append_inj' hbs rfl
    injection e2 with e2
    subst e1 e2
    exact ⟨s, n, pre, ks, sub, h, hs, hk, hn, hc, rfl⟩
theorem look_kid_rt {w : World} {k a : Nat} {ks : List (Nat × Nat × List En)} (hn : ∀ x ∈ ks, Nd w k x.2.1 x.2.2) : RtN w k (lookI (ks.map kb) (a : Nat)) (kidOf a (ks.map kl)) := by
  unfold lookI kidOf
  rw [if_neg (by omega), Int.toNat_natCast, Od.look_map (key := ka) (key' := ka) kb (fun _ => rfl), Od.look_map (key := ka) (key' := ka) kl (fun _ => rfl)]
  cases e : Od.look ka ks a with
  | none => exact rfl
  | some x => exact hn x (Od.look_some e).1
theorem Kd.kid_lev {k n : Nat} {pre : List Nat} {ks : List (Nat × List En)} (h : Kd k n pre ks) {x : Nat × List En} (hx : x ∈ ks) : Go.Proofs.YtdkomhmciihkiaaGreat.lev x.2 ≤ n := by
  have hne := h.ne x hx
  have h1 := head!_mem hne
  have h2 := getLast!_mem hne
  have hag := h.agr hx hx h1 h2
  have ha : Zb.addr x.2.head!.p n = Zb.addr x.2.getLast!.p n := by rw [h.adr x hx _ h1, h.adr x hx _ h2]
  have : Zb.agree x.2.head!.p x.2.getLast!.p n := fun m hm hm2 => by
    by_cases e : m = n
    · subst e; exact ha
    · exact hag m (by omega) hm2
  have := (Zb.part_agree _ _ _).2 this
  unfold Go.Proofs.YtdkomhmciihkiaaGreat.lev
  omega
theorem Kd.kidOf_lev {k n : Nat} {pre : List Nat} {ks : List (Nat × List En)} (h : Kd k n pre ks) (a : Nat) : Go.Proofs.YtdkomhmciihkiaaGreat.lev (kidOf a ks) ≤ n := by
  by_cases he : kidOf a ks = []
  · rw [he]
    have e : Go.Proofs.YtdkomhmciihkiaaGreat.lev [] = 0 := by
      unfold Go.Proofs.YtdkomhmciihkiaaGreat.lev
      rw [show Zb.part ([] : List En).head!.p ([] : List En).getLast!.p 64 = -1 from Zb.part_none 64 fun _ _ => rfl]; rfl
    omega
  · obtain ⟨e, he⟩ := List.exists_mem_of_ne_nil _ he
    obtain ⟨x, hx, _, h2⟩ := kidOf_mem he
    rw [← h2]; exact h.kid_lev hx
theorem Chain.get {w : World} {k : Nat} {p : List Nat} {bs : List Nat} {l lr : List En} (h : Chain w k p bs l lr) (hp : p.length = k) (ho : ∀ c ∈ p, c < 2 ^ 64) : getE l p = getE lr p := by
  induction h with
  | nil l => rfl
  | snoc bs l b s n pre ks sub h hs hk hn hc ih => rw [ih, hk.get hp ho]

/-- the level of the node in the frame, and two: a measure -/
def lvMu (v : Value) (w : World) : Nat := match v with
  | .pointer (some a) => match w.cell? a with
    | some (.int _ z) => (z + 2).toNat
    | _ => 0
  | _ => 0
set_option maxRecDepth 100000
theorem tk_any (w : World) (b k : Nat) (c0 : w.cell? ⟨b, 0, none⟩ = some (.int .i64 (k : Nat))) : Calls Tryz.prog 71 #[.pointer (some ⟨b, 0, none⟩)] w fun e w' => e = .returned (.int .i64 (k : Nat)) ∧ w' = w := by
  have hb := World.block_lt_of_cell? w _ c0
  go_enter Tryz.func71, Tryz.ntmps71
  go_wp2_with fail
  go_ret
  exact ⟨rfl, rfl⟩
theorem troot_any (w : World) (b : Nat) (q : Option Addr) (c1 : w.cell? ⟨b, 1, none⟩ = some (.pointer q)) : Calls Tryz.prog 68 #[.pointer (some ⟨b, 0, none⟩)] w fun e w' => e = .returned (.pointer q) ∧ w' = w := by
  have hb := World.block_lt_of_cell? w _ c1
  go_enter Tryz.func68, Tryz.ntmps68
  go_wp2_with fail
  go_ret
  exact ⟨rfl, rfl⟩
theorem tchk_any (w : World) (b k n c : Nat) (A : Option Addr) (c0 : w.cell? ⟨b, 0, none⟩ = some (.int .i64 (k : Nat))) : Calls Tryz.prog 112 #[.pointer (some ⟨b, 0, none⟩), .slice A n c] w fun e w' => e = .returned (.int .i64 (if n = k then 0 else 2)) ∧ w' = w := by
  have hb := World.block_lt_of_cell? w _ c0
  by_cases h : n = k
  · subst h
    have h1 : ((n : Int) != (n : Int)) = false := by simp
    go_enter Tryz.func112, Tryz.ntmps112
    go_wp2_with fail
    go_ret
    exact ⟨rfl, rfl⟩
  · have h1 : ((n : Int) != (k : Int)) = true := by simp; omega
    go_enter Tryz.func112, Tryz.ntmps112
    go_wp2_with fail
    go_ret
    exact ⟨rfl, rfl⟩
theorem down_any (w : World) (k b s n : Nat) (ls : List (Nat × Nat)) (p : List Nat) (vp : Value) (c0 : w.cell? ⟨b, 0, none⟩ = some (.int .i64 (n : Nat))) (c3 : w.cell? ⟨b, 3, none⟩ = some (.pointer (some ⟨s, 0, none⟩))) (hs : SlR w s k ls)
    (hp : RdU w vp (pti p)) (hl : p.length = k) (ho : ∀ c ∈ p, c < 2 ^ 64) (hn : n < 64) :
    Calls Tryz.prog 168 #[.pointer (some ⟨b, 0, none⟩), vp] w fun e w' => e = .returned (pv (lookI ls (Zb.addr p n : Nat))) ∧ Below w.heap.size w w' := by
  have HL := Lib.hid (nlev_any w b n c0)
  have HA := Lib.hid (zAddr_any p n vp w hp (by have := hs.k1; omega) (by have := hs.k16; omega) ho hn)
  have HK := Lib.hid (nkid_any w b s k ls (Zb.addr p n : Nat) c3 hs)
  obtain ⟨A, c, rfl, _⟩ := RdU.point hp
  obtain ⟨ad, had⟩ : ∃ ad, Zb.addr p n = ad := ⟨_, rfl⟩
  rw [had] at HA HK ⊢
  obtain ⟨lk, hlk⟩ : ∃ lk, lookI ls (ad : Nat) = lk := ⟨_, rfl⟩
  rw [hlk] at HK ⊢
  clear hs hp hl ho hn had hlk
  go_enter Tryz.func168, Tryz.ntmps168
  go_wp2_with fail
  refine HL.out.mono ?_
  rintro e w1 ⟨rfl, hw⟩
  obtain rfl := hw.symm
  go_wp2_with fail
  refine HA.out.mono ?_
  rintro e w1 ⟨rfl, hw⟩
  obtain rfl := hw.symm
  go_wp2_with fail
  refine HK.out.mono ?_
  rintro e w1 ⟨rfl, hb⟩
  have HB := Lib.hid hb
  clear hb
  go_wp2_with fail
  go_ret
  exact ⟨rfl, HB.out⟩
theorem Nd.leaf_of {w : World} {k b : Nat} {l : List En} (h : Nd w k b l) (h0 : lev l = 0) : ∃ p x, l = [⟨p, x⟩] := by
  cases h with
  | leaf _ p v h hp ho hv => exact ⟨p, v, rfl⟩
  | node _ s n pre ks h hs hkd hn => rw [hkd.lev] at h0; omega
theorem Nd.node_of {w : World} {k b : Nat} {l : List En} (h : Nd w k b l) (h0 : 0 < lev l) : ∃ (s n : Nat) (pre : List Nat) (ks : List (Nat × Nat × List En)), l = cat (ks.map kl) ∧ Hd w b n pre 0 (.pointer (some ⟨s, 0, none⟩)) (sumsL (cat (ks.map kl))) ∧ SlR w s k (ks.map kb) ∧ Kd k n pre (ks.map kl) ∧ ∀ x ∈ ks, Nd w k x.2.1 x.2.2 := by
  cases h with
  | leaf _ p v h hp ho hv => rw [lev_one] at h0; omega
  | node _ s n pre ks h hs hkd hn => exact ⟨s, n, pre, ks, rfl, h, hs, hkd, hn⟩
theorem lvMu_rt {w w' : World} {k : Nat} {r : Option Nat} {l : List En} (h : RtN w k r l) (hb : Below w.heap.size w w') : lvMu (pv r) w' ≤ lev l + 1 ∧ (r ≠ none → lvMu (pv r) w' = lev l + 1) := by
  cases r with
  | none => exact ⟨Nat.zero_le _, fun h => absurd rfl h⟩
  | some b =>
    obtain ⟨v, kp, hh⟩ := Nd.hd h
    have := Below.keeps hb _ _ hh.c0
    have e : lvMu (pv (some b)) w' = lev l + 1 := by
      unfold lvMu
      rw [pv_some]
      simp only [this]
      omega
    exact ⟨Nat.le_of_eq e, fun _ => e⟩
def ptrs (bs : List Nat) : List Value := bs.map fun (b : Nat) => Value.pointer (some ⟨b, 0, none⟩)
/-- what path hands back -/
def PathP (W : World) (k : Nat) (p : List Nat) (l : List En) (e : Ending) (w' : World) : Prop :=
  ∃ (v : Value) (bs : List Nat) (below : Option Nat), e = .returned (.tuple #[v, pv below]) ∧ OwnV 113 W w' v (ptrs bs) ∧ Below W.heap.size W w' ∧ bs.length ≤ 65 ∧
    ((∃ lr, Chain W k p bs l lr ∧ RtN W k below lr ∧ (below = none ∨ cov lr p = false)) ∨ (∃ bs0 b x, bs = bs0 ++ [b] ∧ Chain W k p bs0 l [⟨p, x⟩] ∧ Nd W k b [⟨p, x⟩] ∧ below = none))
set_option maxHeartbeats 4000000 in
theorem path_any (w : World) (t k : Nat) (p : List Nat) (l : List En) (vp : Value) (ht : TrR w t k l) (hp : RdU w vp (pti p)) (hl : p.length = k) (ho : ∀ c ∈ p, c < 2 ^ 64) :
    Calls Tryz.prog 113 #[.pointer (some ⟨t, 0, none⟩), vp] w fun e w' => PathP w k p l e w' := by
  obtain ⟨r0, c1, hr0⟩ := ht.c1
  have hbt := World.block_lt_of_cell? w _ c1
  have HV := Lib.hid hp
  obtain ⟨A2, c2, rfl, _⟩ := RdU.point hp
  rw [hl] at HV ⊢
  have HD := Lib.hid (And.intro hl (And.intro ho (And.intro ht.k1 ht.k16)))
  have C1 := Lib.hid c1
  have HR := Lib.hid hr0
  obtain ⟨q0, hq0⟩ := pv_ex r0
  rw [hq0] at c1
  have HQ := Lib.hid hq0
  clear ht hp hl ho hr0 hq0
  go_enter Tryz.func113, Tryz.ntmps113
  go_wp2_with fail
  refine wp_scope_jumps2 0 (fun a' w' => ∃ (ov : Value) (r : Option Nat) (bs : List Nat) (lr : List En) (u2 u3 u8 u9 u10 u11 u12 u13 u14 u15 u16 u17 u18 u19 u20 u21 u22 u23 u24 u25 u26 u27 u28 : Value), a' = { tmps := #[.pointer (some ⟨t, 0, none⟩), .slice A2 k c2, u2, u3, .slice none 0 0, .pointer none, ov, pv r, u8, u9, u10, u11, u12, u13, u14, u15, u16, u17, u18, u19, u20, u21, u22, u23, u24, u25, u26, u27, u28], defers := [] } ∧ OwnV 113 w w' ov (bs.map fun (b : Nat) => Value.pointer (some ⟨b, 0, none⟩)) ∧ Chain w k p bs l lr ∧ RtN w k r lr ∧ bs.length + lev lr ≤ 64 ∧ Below w.heap.size w w') (fun a' w' => lvMu (a'.tmps.getD 7 undef) w') rfl ?_ ?_
  · rintro a' w' ⟨ov, r, bs, lr, u2, u3, u8, u9, u10, u11, u12, u13, u14, u15, u16, u17, u18, u19, u20, u21, u22, u23, u24, u25, u26, u27, u28, rfl, hJ⟩
    obtain ⟨hown, hch, hrt, hlen, hb⟩ := hJ
    have H0 := Lib.hid (And.intro hown (And.intro hch (And.intro hrt (And.intro hlen hb))))
    cases r with
    | none =>
      clear hown hch hrt hlen hb
      simp only [pv_none]
      go_wp2_with fail
      refine (ncov_nil _ _).mono ?_
      rintro e w2 ⟨rfl, hw⟩
      obtain rfl := hw.symm
      go_wp2_with fail
      simp only [Exit.jump]
      go_ret2
      exact ⟨_, bs, none, rfl, H0.out.1, H0.out.2.2.2.2, by have := H0.out.2.2.2.1; omega, .inl ⟨lr, H0.out.2.1, H0.out.2.2.1, .inl rfl⟩⟩
    | some b =>
      have hnd : Nd w k b lr := hrt
      have HC := Lib.hid (ncov_any w' k b lr p _ (hnd.bel hb) (HV.out.below hb) HD.out.1 HD.out.2.1 HD.out.2.2.1 HD.out.2.2.2)
      cases hcv : cov lr p with
      | false =>
        rw [hcv] at HC
        have HCV := Lib.hid hcv
        clear hown hch hrt hlen hb hnd hcv
        simp only [pv_some]
        go_wp2_with fail
        refine HC.out.mono ?_
        rintro e w2 ⟨rfl, hw⟩
        obtain rfl := hw.symm
        go_wp2_with fail
        simp only [Exit.jump]
        go_ret2
        exact ⟨_, bs, some b, rfl, H0.out.1, H0.out.2.2.2.2, by have := H0.out.2.2.2.1; omega, .inl ⟨lr, H0.out.2.1, H0.out.2.2.1, .inr HCV.out⟩⟩
      | true =>
        rw [hcv] at HC
        obtain ⟨vv, kp, hh⟩ := hnd.hd
        have HND := Lib.hid hnd
        have HCV := Lib.hid hcv
        obtain ⟨lv, hlv⟩ : ∃ lv : Int, lv = (lev lr : Int) - 1 := ⟨_, rfl⟩
        rw [← hlv] at hh
        have HLV := Lib.hid hlv
        have C0 := Lib.hid hh.c0
        clear hown hch hrt hlen hb hnd hcv hh hlv
        simp only [pv_some]
        go_wp2_with fail
        refine HC.out.mono ?_
        rintro e w2 ⟨rfl, hw⟩
        obtain rfl := hw.symm
        go_wp2_with (at_builtin; refine wpList_append_V rfl (.tmp 18) (.tmp 20) rfl w (bs.map fun (b : Nat) => Value.pointer (some ⟨b, 0, none⟩)) (.pointer (some ⟨b, 0, none⟩)) nodesT ?_ ?_ ?_ ?_ ?_)
        · exact H0.out.1.below (by repeat (first | exact Below.refl _ _ | (refine Below.drew ?_) | (refine below_drewN' ?_ _) | (refine below_alloc' ?_ _) | (refine Below.setCell ?_ (by first | exact Nat.le_refl _ | (simp; done) | (simp; omega)) _)))
        · exact ⟨_, _, rfl, by simp [go_sem], rfl⟩
        · have := H0.out.2.2.2.2.size; simp; omega
        · rw [List.length_map]; have := H0.out.2.2.2.1; omega
        intro ov' w3 hown' hg
        have hb0 : Below w'.heap.size w' (w'.alloc (.cells #[.pointer (some ⟨b, 0, none⟩)] 113)) := below_alloc' (Below.refl _ _) _
        have hbw3 : Below w.heap.size w w3 := OwnV.grown (H0.out.1.below hb0) (H0.out.2.2.2.2.trans (hb0.mono H0.out.2.2.2.2.size)) hg
        have HN := Lib.hid (And.intro hown' hbw3)
        have CL := Below.keeps hbw3 _ _ C0.out
        obtain ⟨A3, c3, rfl⟩ := OwnV.shape hown'
        clear hown' hg hb0 hbw3
        go_wp2_with fail
        refine (nlev_any _ b lv CL).mono ?_
        rintro e w4 ⟨rfl, hw⟩
        obtain rfl := hw.symm
        by_cases hneg : lv < 0
        · have hd : decide (lv < 0) = true := by simp [hneg]
          go_wp2_with fail
          simp only [Exit.jump]
          go_ret2
          have hl0 : lev lr = 0 := by have := HLV.out; omega
          obtain ⟨q, x, rfl⟩ := HND.out.leaf_of hl0
          have hq : q = p := by
            have := HCV.out
            unfold cov at this
            rw [hl0, preL_one, Zb.cutN_zero] at this
            exact (of_decide_eq_true this).symm
          subst hq
          refine ⟨_, bs ++ [b], none, rfl, ?_, HN.out.2, by have := H0.out.2.2.2.1; simp; omega, .inr ⟨bs, b, x, rfl, H0.out.2.1, HND.out, rfl⟩⟩
          have := HN.out.1
          simp only [List.length_append, List.length_map, List.length_singleton] at this
          unfold ptrs
          rw [List.map_append]
          exact this
        · obtain ⟨s, n, pre, ks, e1, hh, hs, hk, hn⟩ := HND.out.node_of (by have := HLV.out; omega)
          have hl : lev lr = n + 1 := by rw [e1, hk.lev]
          have hd : decide (lv < 0) = false := by simp [hneg]
          have hd' : ¬ lv < 0 := hneg
          have hw := HN.out.2
          have HDW := Lib.hid (down_any w3 k b s n (ks.map kb) p _ (Below.keeps hw _ _ hh.c0) (Below.keeps hw _ _ hh.c3) (hs.below hw) (HV.out.below hw) HD.out.1 HD.out.2.1 hk.n64)
          have hc : Zb.cutN p (n + 1) = pre := by
            have := HCV.out
            unfold cov at this
            rw [hl, e1, hk.preL] at this
            exact of_decide_eq_true this
          have HCH := Lib.hid (show Chain w k p (bs ++ [b]) l (kidOf (Zb.addr p n) (ks.map kl)) from .snoc bs l b s n pre ks (e1 ▸ H0.out.2.1) hh hs hk hn hc)
          have HRT := Lib.hid (look_kid_rt (k := k) (a := Zb.addr p n) hn)
          have HKL := Lib.hid (And.intro (hk.kidOf_lev (Zb.addr p n)) hl)
          clear hh hs hk hn e1 hl hc hw
          generalize lookI (ks.map kb) (Zb.addr p n : Nat) = r2 at *
          generalize kidOf (Zb.addr p n) (ks.map kl) = lr2 at *
          obtain ⟨q2, hq2⟩ := pv_ex r2
          go_wp2_with fail
          refine HDW.out.mono ?_
          rintro e w5 ⟨rfl, hb5⟩
          have hbw5 := Lib.hid (HN.out.2.trans (hb5.mono HN.out.2.size))
          have HO5 := Lib.hid (HN.out.1.below hb5)
          clear hb5
          rw [hq2]
          go_wp2_with fail
          go_step3
          rw [← hq2]
          refine ⟨rfl, ⟨_, r2, bs ++ [b], lr2, _, _, _, _, _, _, _, _, _, _, _, _, _, _, _, _, _, _, _, _, _, _, _, rfl, ?_, HCH.out, HRT.out, ?_, hbw5.out⟩, ?_⟩
          · have := HO5.out
            simp only [List.length_append, List.length_map, List.length_singleton] at this
            rw [List.map_append]
            exact this
          · have h1 := HKL.out; have h2 := H0.out.2.2.2.1; rw [List.length_append, List.length_singleton]; omega
          · show lvMu (pv r2) _ < lvMu (.pointer (some ⟨b, 0, none⟩)) _
            have h1 := (lvMu_rt HRT.out hbw5.out).1
            have h2 := (lvMu_rt (r := some b) (show RtN w k (some b) lr from HND.out) H0.out.2.2.2.2).2 (by simp)
            rw [pv_some] at h2
            rw [h2]
            have h3 := HKL.out
            omega
  · intro Q' hQ'
    have HQ' := Lib.hid hQ'
    clear hQ'
    go_wp2_with fail
    go_step3
    simp only [Exit.then]
    rename_i hK
    refine hK _ _ ?_
    refine HQ'.out _ _ ?_
    rw [← HQ.out]
    exact ⟨.slice none 0 0, r0, [], l, _, _, _, _, _, _, _, _, _, _, _, _, _, _, _, _, _, _, _, _, _, _, _, rfl, World.ownsRow_nil _ _ _ _, .nil l, HR.out, by have := lev_le l; simp; omega, Below.refl _ _⟩
end Go.Proofs.YtdkomhmciihkiaaGreat
/-! TrB -/
namespace Go.Proofs.YtdkomhmciihkiaaGreat
open Go.RowKit
set_option linter.unusedVariables false
set_option linter.unusedSimpArgs false

/-- a row of nodes, read -/
def RdN (w : World) (v : Value) (bs : List Nat) : Prop := ∃ A c, v = .slice A bs.length c ∧ bs.length ≤ c ∧ (bs ≠ [] → ∃ g, A = some ⟨g, 0, none⟩ ∧ ∀ j (h : j < bs.length), w.cell? ⟨g, j, none⟩ = some (.pointer (some ⟨bs[j], 0, none⟩)))
theorem RdN.below {w w' : World} {v : Value} {bs : List Nat} (h : RdN w v bs) (hb : Below w.heap.size w w') : RdN w' v bs := by
  obtain ⟨A, c, h1, hc, h2⟩ := h
  refine ⟨A, c, h1, hc, fun h0 => ?_⟩
  obtain ⟨g, h3, h4⟩ := h2 h0
  exact ⟨g, h3, fun j hj => Below.keeps hb _ _ (h4 j hj)⟩
theorem OwnV.rdN {W w : World} {v : Value} {bs : List Nat} {t : TypeId} (h : OwnV t W w v (ptrs bs)) : RdN w v bs := by
  have hl : (ptrs bs).length = bs.length := List.length_map _
  obtain ⟨h1, h2⟩ := h
  rcases h2 with ⟨rfl, h0⟩ | ⟨g, cap, cur, rfl, hg, hh, hcap, hm, hs, ht⟩
  · exact ⟨none, 0, by rw [← hl, h0], by omega, fun hp => absurd (List.length_eq_zero_iff.1 (by omega)) hp⟩
  · refine ⟨_, _, by rw [hl], by omega, fun h0 => ⟨g, rfl, fun j hj => ?_⟩⟩
    have h3 : (ptrs bs)[j]? = some (.pointer (some ⟨bs[j], 0, none⟩)) := by unfold ptrs; rw [List.getElem?_map, List.getElem?_eq_getElem hj]; rfl
    have h4 : j < (ptrs bs).length * 1 := by omega
    rw [← h3]
    conv => rhs; rw [← ht]
    rw [List.getElem?_take_of_lt h4, World.cell?]
    simp only [hh]
    simp
/-- what may be done at the end of a way -/
def OpOk (k : Nat) (p : List Nat) (op : List En → List En) : Prop := ∀ (n : Nat) (pre : List Nat) (L : List (Nat × List En)), Kd k n pre L → Zb.cutN p (n + 1) = pre → op (kidOf (Zb.addr p n) L) ≠ [] →
  Kd k n pre (Od.ins ka (Zb.addr p n, op (kidOf (Zb.addr p n) L)) L) ∧ cat (Od.ins ka (Zb.addr p n, op (kidOf (Zb.addr p n) L)) L) = op (cat L)
theorem opok_ins {k : Nat} {p : List Nat} (v : Nat) (hp : p.length = k) (ho : ∀ c ∈ p, c < 2 ^ 64) : OpOk k p (insE p v) := fun n pre L h hc _ => h.ins v hp ho hc
theorem Kd.kid_in {k n a : Nat} {pre : List Nat} {L : List (Nat × List En)} {m : List En} (h : Kd k n pre L) (hx : (a, m) ∈ L) : Zb.cutN (Go.Proofs.YtdkomhmciihkiaaGreat.preL m) (n + 1) = pre ∧ Zb.addr (Go.Proofs.YtdkomhmciihkiaaGreat.preL m) n = a ∧ Go.Proofs.YtdkomhmciihkiaaGreat.lev m ≤ n := by
  have hl := h.kid_lev hx
  have hm := head!_mem (h.ne _ hx)
  simp only at hl hm
  unfold Go.Proofs.YtdkomhmciihkiaaGreat.preL
  refine ⟨?_, ?_, hl⟩
  · rw [cut_cut _ _ _ (by omega)]; exact h.pre _ hx _ hm
  · rw [Zb.addr_cut _ _ _ hl]; exact h.adr _ hx _ hm
theorem pref_get {bs t : List Nat} {b : Nat} {l : List Nat} (h : (bs ++ [b]) ++ t = l) : ∃ hj : bs.length < l.length, l[bs.length] = b := by
  subst h
  refine ⟨by simp, ?_⟩
  simp
set_option maxRecDepth 100000
set_option maxHeartbeats 4000000 in
theorem up_any (w : World) (t k g : Nat) (p : List Nat) (bs : List Nat) (l lr : List En) (v : Value) (op : List En → List En) (c0 : w.cell? ⟨t, 0, none⟩ = some (.int .i64 (k : Nat))) (k1 : 1 ≤ k) (k16 : k ≤ 16) (hv : RdN w v bs)
    (hch : Chain w k p bs l lr) (hop : OpOk k p op) (hg : Nd w k g (op lr)) (hbl : bs.length ≤ 65) :
    Calls Tryz.prog 117 #[.pointer (some ⟨t, 0, none⟩), v, .pointer (some ⟨g, 0, none⟩)] w fun e w' => ∃ g', e = .returned (.pointer (some ⟨g', 0, none⟩)) ∧ TrR w' g' k (op l) ∧ Below w.heap.size w w' ∧ w.heap.size ≤ g' := by
  obtain ⟨A, c, rfl, _, hx⟩ := hv
  have HX := Lib.hid hx
  have C0 := Lib.hid (And.intro c0 (And.intro k1 k16))
  have HCH := Lib.hid (And.intro hch hg)
  have HL := Lib.hid hbl
  have HOP := Lib.hid hop
  have HW0 := Lib.hid (show wrap64 ((bs.length : Int) - 1) = (bs.length : Int) - 1 by unfold wrap64; omega)
  clear c0 k1 k16 hch hg hx hop hbl
  go_enter Tryz.func117, Tryz.ntmps117
  go_wp2_with fail
  go_loopw [2, 7] (fun nv iv wr => ∃ (bsr : List Nat) (g' : Nat) (lr' : List En), nv = .pointer (some ⟨g', 0, none⟩) ∧ iv = .int .i64 ((bsr.length : Int) - 1) ∧ (∃ tl, bsr ++ tl = bs) ∧ Chain w k p bsr l lr' ∧ Nd wr k g' (op lr') ∧ Below w.heap.size w wr) (fun _ iv _ => (intOf iv + 1).toNat)
  case atStart => exact ⟨bs, g, lr, rfl, by first | rfl | rw [HW0.out], ⟨[], by simp⟩, HCH.out.1, HCH.out.2, Below.refl _ _⟩
  case round =>
    obtain ⟨bsr, g', lr', rfl, rfl, hpre, hch, hnd, hb⟩ := hrel
    have HN := Lib.hid (And.intro hnd hb)
    rcases List.eq_nil_or_concat bsr with rfl | ⟨bs', b, rfl⟩
    · have HC := Lib.hid hch
      clear hpre hch hnd hb
      have q0 := Below.keeps HN.out.2 _ _ C0.out.1
      have hq := World.block_lt_of_cell? wr _ q0
      simp only [List.length_nil]
      go_wp2_with fail
      go_ret
      have hl : lr' = l := by
        have := HC.out
        generalize hbs : ([] : List Nat) = ys at this
        cases this with
        | nil => rfl
        | snoc bs' _ b' s n pre ks sub h hs hk hn hc => simp at hbs
      subst hl
      refine ⟨wr.heap.size, rfl, ⟨by simp [go_sem], ⟨some g', by simp [go_sem, pv_some], ?_⟩, C0.out.2.1, C0.out.2.2, _, alloc_blk _ _⟩, below_alloc' HN.out.2 _, HN.out.2.size⟩
      exact Nd.bel HN.out.1 (below_alloc' (Below.refl _ _) _)
    · rw [List.concat_eq_append] at *
      obtain ⟨tl, htl⟩ := hpre
      obtain ⟨s, n, pre, ks, hsub, hh, hs, hk, hn, hc, rfl⟩ := hch.inv
      obtain ⟨hj, hbj⟩ := pref_get htl
      obtain ⟨ga, rfl, hcells⟩ := HX.out (by intro h; rw [h] at hj; simp at hj)
      have x0 := Below.keeps hb _ _ (hcells _ hj)
      rw [hbj] at x0
      have hxl := World.block_lt_of_cell? wr _ x0
      obtain ⟨o1, o2⟩ := HOP.out n pre _ hk hc hnd.ne
      obtain ⟨i1, i2, i3⟩ := o1.kid_in ((Od.mem_ins_iff (key := ka) hk.asc).2 (.inl rfl))
      have HWI := Lib.hid (nwith_any wr k b s n g' pre ks _ (hh.keep hb) (hs.below hb) hk (fun x hx => (hn x hx).bel hb) hnd i1 i3)
      rw [i2, o2] at HWI
      have HS := Lib.hid hsub
      have HT := Lib.hid htl
      have h1 : (0 : Int) ≤ (bs'.length : Int) := by omega
      have h2 : (bs'.length : Int) < (bs.length : Int) := by omega
      have HWR := Lib.hid (show wrap64 ((bs'.length : Int) - 1) = (bs'.length : Int) - 1 by have := HL.out; unfold wrap64; omega)
      have he : ((bs' ++ [b]).length : Int) - 1 = (bs'.length : Int) := by rw [List.length_append, List.length_singleton]; omega
      have HE := Lib.hid he
      clear hcells hch hnd hb hh hs hk hn hc o1 o2 i1 i2 i3 hsub htl hbj
      simp only [he]
      go_wp2_with fail
      refine HWI.out.mono ?_
      rintro e w1 ⟨g2, rfl, hn2, hb2⟩
      have HN2 := Lib.hid (And.intro hn2 (HN.out.2.trans (hb2.mono HN.out.2.size)))
      clear hn2 hb2
      go_wp2_with fail
      go_roundw
      case rel => exact ⟨bs', g2, _, rfl, (by first | rw [HWR.out] | rfl), ⟨b :: tl, by rw [← HT.out]; simp⟩, HS.out, HN2.out.1, HN2.out.2⟩
      case measure => rw [intOf_of' HWR.out, intOf_nat]; omega
theorem found_none (w : World) (A : Option Addr) (c : Nat) :
    Calls Tryz.prog 114 #[.slice A 0 c] w fun e w' => e = .returned (.tuple #[.agg #[.slice none 0 0, .int .u64 0], .bool false]) ∧ Below w.heap.size w w' := by
  go_enter Tryz.func114, Tryz.ntmps114
  go_wp2_with fail
  refine bodyPost_ret (v := .tuple #[.agg #[.slice none 0 0, .int .u64 0], .bool false]) (by simp [results, Tryz.results114, go_sem]) rfl ⟨rfl, (by repeat (first | exact Below.refl _ _ | (refine Below.drew ?_) | (refine below_drewN' ?_ _) | (refine below_alloc' ?_ _) | (refine Below.setCell ?_ (by first | exact Nat.le_refl _ | (simp; done) | (simp; omega)) _)))⟩
theorem found_node (w : World) (bs : List Nat) (b s : Nat) (v : Value) (hv : RdN w v (bs ++ [b])) (y3 : w.cell? ⟨b, 3, none⟩ = some (.pointer (some ⟨s, 0, none⟩))) (hl : bs.length ≤ 65) :
    Calls Tryz.prog 114 #[v] w fun e w' => e = .returned (.tuple #[.agg #[.slice none 0 0, .int .u64 0], .bool false]) ∧ Below w.heap.size w w' := by
  obtain ⟨A, c, rfl, _, hx⟩ := hv
  obtain ⟨g, rfl, hc⟩ := hx (by simp)
  have x0 := hc bs.length (by simp)
  have hlb : g < w.heap.size := World.block_lt_of_cell? w _ x0
  rw [show (bs ++ [b])[bs.length]'(by simp) = b by simp] at x0
  have hlen : (bs ++ [b]).length = bs.length + 1 := by simp
  rw [hlen]
  have hw0 : wrap64 ((bs.length : Int) + 1 - 1) = (bs.length : Int) := by unfold wrap64; omega
  have h1 : (0 : Int) ≤ (bs.length : Int) := by omega
  have h2 : (bs.length : Int) < (bs.length : Int) + 1 := by omega
  have h3 : (((bs.length : Int) + 1) == 0) = false := by simp; omega
  have HE := Lib.hid (fun w' (h : Below w.heap.size w w') => ent_node w' b s (Below.keeps h _ _ y3))
  clear hx hc y3 hlen
  generalize bs.length = n at *
  go_enter Tryz.func114, Tryz.ntmps114
  go_wp2_with fail
  refine (HE.out _ (by repeat (first | exact Below.refl _ _ | (refine Below.drew ?_) | (refine below_drewN' ?_ _) | (refine below_alloc' ?_ _) | (refine Below.setCell ?_ (by first | exact Nat.le_refl _ | (simp; done) | (simp; omega)) _)))).mono ?_
  rintro e w1 ⟨rfl, hb⟩
  have hblk : w1.heap[w.heap.size]? = some (.cells #[.slice none 0 0, .int .u64 0] 35 (0, 0)) := (hb.block _ (by simp)).trans (by show (w.heap.push _)[w.heap.size]? = _; simp)
  have k0 : w1.cell? ⟨w.heap.size, 0, none⟩ = some (.slice none 0 0) := by simp only [World.cell?, hblk]; simp
  have k1 : w1.cell? ⟨w.heap.size, 1, none⟩ = some (.int .u64 0) := by simp only [World.cell?, hblk]; simp
  have f0 : w1.frozen? ⟨w.heap.size, 0, none⟩ = false := by simp [World.frozen?, hblk]
  have f1 : w1.frozen? ⟨w.heap.size, 1, none⟩ = false := by simp [World.frozen?, hblk]
  have hlt := kr_lt hblk
  have hb4 : Below w.heap.size w w1 := below_trans (by repeat (first | exact Below.refl _ _ | (refine Below.drew ?_) | (refine below_drewN' ?_ _) | (refine below_alloc' ?_ _) | (refine Below.setCell ?_ (by first | exact Nat.le_refl _ | (simp; done) | (simp; omega)) _))) hb
  have HF := Lib.hid ((hb4.setCell (p := ⟨w.heap.size, 0, none⟩) (Nat.le_refl _) (.slice none 0 0)).setCell (p := ⟨w.heap.size, 1, none⟩) (Nat.le_refl _) (.int .u64 0))
  clear hb hb4 hblk
  go_wp2_with fail
  refine bodyPost_ret (v := .tuple #[.agg #[.slice none 0 0, .int .u64 0], .bool false]) (by simp [results, Tryz.results114, go_sem, k0, k1]) rfl ⟨rfl, HF.out⟩
theorem Nd.leaf_hd {w : World} {k b x : Nat} {p : List Nat} (h : Nd w k b [⟨p, x⟩]) : Hd w b (-1) p x (.pointer none) (Sm.of x) ∧ p.length = k := by
  generalize hl : [(⟨p, x⟩ : En)] = l at h
  cases h with
  | leaf _ q v h hp ho hv => injection hl with hl _; injection hl with h1 h2; subst h1 h2; exact ⟨h, hp⟩
  | node _ s n pre ks h hs hkd hn => have := hkd.two_le; rw [← hl] at this; simp at this
theorem found_leaf (w : World) (bs : List Nat) (b k x : Nat) (p : List Nat) (v : Value) (hv : RdN w v (bs ++ [b])) (hnd : Nd w k b [⟨p, x⟩]) (k1 : 1 ≤ k) (k16 : k ≤ 16) (hl : bs.length ≤ 65) :
    Calls Tryz.prog 114 #[v] w fun e w' => EntP w p x e w' := by
  obtain ⟨A, c, rfl, _, hx⟩ := hv
  obtain ⟨g, rfl, hc⟩ := hx (by simp)
  have x0 := hc bs.length (by simp)
  have hlb : g < w.heap.size := World.block_lt_of_cell? w _ x0
  rw [show (bs ++ [b])[bs.length]'(by simp) = b by simp] at x0
  have hlen : (bs ++ [b]).length = bs.length + 1 := by simp
  rw [hlen]
  have hw0 : wrap64 ((bs.length : Int) + 1 - 1) = (bs.length : Int) := by unfold wrap64; omega
  have h1 : (0 : Int) ≤ (bs.length : Int) := by omega
  have h2 : (bs.length : Int) < (bs.length : Int) + 1 := by omega
  have h3 : (((bs.length : Int) + 1) == 0) = false := by simp; omega
  have HE := Lib.hid (fun w' (h : Below w.heap.size w w') => let ⟨h1, h2⟩ := (hnd.bel h).leaf_hd; ent_leaf w' b k x _ p _ h1 h2 k1 k16)
  clear hx hc hnd hlen k1 k16
  generalize bs.length = n at *
  go_enter Tryz.func114, Tryz.ntmps114
  go_wp2_with fail
  refine (HE.out _ (by repeat (first | exact Below.refl _ _ | (refine Below.drew ?_) | (refine below_drewN' ?_ _) | (refine below_alloc' ?_ _) | (refine Below.setCell ?_ (by first | exact Nat.le_refl _ | (simp; done) | (simp; omega)) _)))).mono ?_
  rintro e w1 ⟨u, rfl, hpt, hb⟩
  have hblk : w1.heap[w.heap.size]? = some (.cells #[.slice none 0 0, .int .u64 0] 35 (0, 0)) := (hb.block _ (by simp)).trans (by show (w.heap.push _)[w.heap.size]? = _; simp)
  have k0 : w1.cell? ⟨w.heap.size, 0, none⟩ = some (.slice none 0 0) := by simp only [World.cell?, hblk]; simp
  have k1 : w1.cell? ⟨w.heap.size, 1, none⟩ = some (.int .u64 0) := by simp only [World.cell?, hblk]; simp
  have f0 : w1.frozen? ⟨w.heap.size, 0, none⟩ = false := by simp [World.frozen?, hblk]
  have f1 : w1.frozen? ⟨w.heap.size, 1, none⟩ = false := by simp [World.frozen?, hblk]
  have hlt := kr_lt hblk
  have hb4 : Below w.heap.size w w1 := below_trans (by repeat (first | exact Below.refl _ _ | (refine Below.drew ?_) | (refine below_drewN' ?_ _) | (refine below_alloc' ?_ _) | (refine Below.setCell ?_ (by first | exact Nat.le_refl _ | (simp; done) | (simp; omega)) _))) hb
  have hset := (hpt.set (j := 0) (x := u) hblk (by decide)).set (j := 1) (x := .int .u64 (x : Nat)) (kr_set hblk) (by decide)
  obtain ⟨A9, c9, rfl, _⟩ := RdU.point hpt.rd
  have HF := Lib.hid (And.intro hset ((hb4.setCell (p := ⟨w.heap.size, 0, none⟩) (Nat.le_refl _) (.slice A9 p.length c9)).setCell (p := ⟨w.heap.size, 1, none⟩) (Nat.le_refl _) (.int .u64 (x : Nat))))
  clear hpt hset hb hb4 hblk
  go_wp2_with fail
  refine bodyPost_ret (v := .tuple #[.agg #[.slice A9 p.length c9, .int .u64 (x : Nat)], .bool true]) (by simp [results, Tryz.results114, go_sem, k0, k1]) rfl ⟨_, rfl, HF.out⟩
end Go.Proofs.YtdkomhmciihkiaaGreat
/-! TrC -/
namespace Go.Proofs.YtdkomhmciihkiaaGreat
open Go.RowKit
set_option linter.unusedVariables false
set_option linter.unusedSimpArgs false

theorem Nd.cov_none {w : World} {k b : Nat} {l : List En} {p : List Nat} (h : Nd w k b l) (hp : p.length = k) (ho : ∀ c ∈ p, c < 2 ^ 64) (hc : cov l p = false) : ∀ e ∈ l, e.key ≠ pkey p := by
  intro e he hk
  have h1 := h.cut e he
  rw [key_pt h.et hp ho he hk] at h1
  unfold cov at hc
  rw [h1] at hc
  simp at hc
theorem getE_one (p : List Nat) (x : Nat) : getE [⟨p, x⟩] p = some x := by
  unfold getE; rw [Od.look_cons, if_pos (show (⟨p, x⟩ : En).key = pkey p from rfl)]; rfl
theorem ins_one (p : List Nat) (x v : Nat) : insE p v [⟨p, x⟩] = [⟨p, v⟩] := by
  unfold insE Od.ins
  simp [En.key]
theorem ins_same {k : Nat} {l : List En} {p : List Nat} {v : Nat} (h : Et k l) (hp : p.length = k) (ho : ∀ c ∈ p, c < 2 ^ 64) (hg : getE l p = some v) : insE p v l = l := by
  refine (h.ins v hp ho).ext h fun e => ?_
  rw [h.mem_ins]
  have hmem : (⟨p, v⟩ : En) ∈ l := by
    unfold getE at hg
    cases e1 : Od.look En.key l (pkey p) with
    | none => rw [e1] at hg; simp at hg
    | some y =>
      rw [e1] at hg
      obtain ⟨h1, h2⟩ := Od.look_some e1
      have hv : y.v = v := by simpa using hg
      rw [← hv, ← key_pt h hp ho h1 h2]; exact h1
  constructor
  · rintro (rfl | ⟨h1, _⟩)
    · exact hmem
    · exact h1
  · intro he
    by_cases hk : e.key = pkey p
    · left
      have h1 := Od.look_mem h.asc he
      have h2 := Od.look_mem h.asc hmem
      rw [hk] at h1
      exact Option.some.inj (h1.symm.trans h2)
    · exact .inr ⟨he, hk⟩
/-- a path's end: what was found -/
theorem path_found {w w' : World} {k : Nat} {p bs : List Nat} {l : List En} {v : Value} {below : Option Nat} (hp : p.length = k) (ho : ∀ c ∈ p, c < 2 ^ 64) (k1 : 1 ≤ k) (k16 : k ≤ 16) (hb : Below w.heap.size w w') (hv : RdN w' v bs) (hbl : bs.length ≤ 65)
    (h : (∃ lr, Chain w k p bs l lr ∧ RtN w k below lr ∧ (below = none ∨ cov lr p = false)) ∨ (∃ bs0 b x, bs = bs0 ++ [b] ∧ Chain w k p bs0 l [⟨p, x⟩] ∧ Nd w k b [⟨p, x⟩] ∧ below = none)) :
    (getE l p = none ∧ (∃ lr, Chain w k p bs l lr ∧ RtN w k below lr ∧ getE lr p = none ∧ (∀ b, below = some b → cov lr p = false)) ∧ Calls Tryz.prog 114 #[v] w' fun e w2 => e = .returned (.tuple #[.agg #[.slice none 0 0, .int .u64 0], .bool false]) ∧ Below w'.heap.size w' w2) ∨
    (∃ x bs0 b, getE l p = some x ∧ bs = bs0 ++ [b] ∧ Chain w k p bs0 l [⟨p, x⟩] ∧ Calls Tryz.prog 114 #[v] w' fun e w2 => EntP w' p x e w2) := by
  rcases h with ⟨lr, hch, hr, hc⟩ | ⟨bs0, b, x, rfl, hch, hnd, rfl⟩
  · left
    have hg : getE lr p = none := by
      cases below with
      | none => obtain rfl : lr = [] := hr; rfl
      | some b => exact getE_none (Nd.cov_none hr hp ho (by rcases hc with h | h; · cases h
                                                            · exact h))
    refine ⟨by rw [hch.get hp ho, hg], ⟨lr, hch, hr, hg, fun b e => by rcases hc with h | h; · rw [h] at e; cases e
                                                                       · exact h⟩, ?_⟩
    rcases List.eq_nil_or_concat bs with rfl | ⟨bs', b, rfl⟩
    · obtain ⟨A, c, rfl, _, _⟩ := hv
      exact found_none _ _ _
    · rw [List.concat_eq_append] at *
      obtain ⟨s, n, pre, ks, hsub, hh, hs, hk, hn, hc, rfl⟩ := hch.inv
      exact found_node w' bs' b s v hv (Below.keeps hb _ _ hh.c3) (by simp at hbl; omega)
  · right
    refine ⟨x, bs0, b, by rw [hch.get hp ho, getE_one], rfl, hch, found_leaf w' bs0 b k x p v hv (hnd.bel hb) k1 k16 (by simp at hbl; omega)⟩
set_option maxRecDepth 100000
/-- a leaf beside a node -/
theorem pair_list {w : World} {k ba bb m v : Nat} {p : List Nat} {la : List En} (hA : Nd w k ba la) (hB : Nd w k bb [⟨p, v⟩]) (hp : p.length = k) (ho : ∀ c ∈ p, c < 2 ^ 64) (hm : Zb.part (preL la) p 64 = m) (h1 : lev la ≤ m) (hg : ∀ e ∈ la, e.key ≠ pkey p) :
    cat ((pairKs (Zb.addr (preL la) m) (Zb.addr p m) ba bb la [⟨p, v⟩]).map kl) = insE p v la := by
  have h := pair_kd hA hB (m := m) (by rw [preL_one]; exact hm) h1 (by rw [lev_one]; omega)
  rw [preL_one] at h
  obtain ⟨hK, hne, _⟩ := h
  refine hK.cat_et.ext (hA.et.ins v hp ho) fun e => ?_
  have hasc : Od.Asc ka [(Zb.addr (preL la) m, ba, la)] := by unfold Od.Asc; simp
  rw [mem_cat, hA.et.mem_ins]
  constructor
  · rintro ⟨x, hx, he⟩
    obtain ⟨y, hy, rfl⟩ := List.mem_map.1 hx
    unfold pairKs at hy
    rcases (Od.mem_ins_iff (key := ka) hasc).1 hy with rfl | ⟨hy, _⟩
    · left; simpa [kl] using he
    · right
      obtain rfl : y = (Zb.addr (preL la) m, ba, la) := by simpa using hy
      exact ⟨he, hg e he⟩
  · rintro (rfl | ⟨he, _⟩)
    · exact ⟨_, List.mem_map.2 ⟨(Zb.addr p m, bb, [⟨p, v⟩]), (Od.mem_ins_iff (key := ka) hasc).2 (.inl rfl), rfl⟩, by simp [kl]⟩
    · exact ⟨_, List.mem_map.2 ⟨(Zb.addr (preL la) m, ba, la), (Od.mem_ins_iff (key := ka) hasc).2 (.inr ⟨by simp, by simpa [ka] using hne⟩), rfl⟩, he⟩
theorem RdN.take {w : World} {A : Option Addr} {n c j : Nat} {bs bs0 tl : List Nat} (h : RdN w (.slice A n c) bs) (he : bs = bs0 ++ tl) (hj : j = bs0.length) : RdN w (.slice A j c) bs0 := by
  obtain ⟨A', c', h1, hc, h2⟩ := h
  subst he hj
  injection h1 with e1 e2 e3
  subst e1 e3
  rw [List.length_append] at hc
  refine ⟨_, _, rfl, by omega, fun h0 => ?_⟩
  obtain ⟨g, h3, h4⟩ := h2 (by simp [h0])
  refine ⟨g, h3, fun j hj => ?_⟩
  rw [h4 j (by rw [List.length_append]; omega), List.getElem_append_left hj]
theorem part_lev {w : World} {k b : Nat} {l : List En} {p : List Nat} (h : Nd w k b l) (hp : p.length = k) (ho : ∀ c ∈ p, c < 2 ^ 64) (hc : cov l p = false) : ∃ m : Nat, Zb.part (preL l) p 64 = m ∧ lev l ≤ m := by
  obtain ⟨q1, q2, q3⟩ := h.pre_ok
  have h1 := cov_part l (lev l) q1 hp q2 ho q3
  unfold cov at hc
  rw [hc] at h1
  have h2 := of_decide_eq_false h1
  exact ⟨(Zb.part (preL l) p 64).toNat, by omega, by omega⟩
/-- Put: a tree with the entry; the same one where nothing changes, else a new one -/
def PutP (W : World) (t k : Nat) (p : List Nat) (v : Nat) (l : List En) (e : Ending) (w' : World) : Prop :=
  ∃ g, e = .returned (.tuple #[.pointer (some ⟨g, 0, none⟩), .int .i64 0]) ∧ TrR w' g k (insE p v l) ∧ Below W.heap.size W w' ∧ (getE l p = some v → g = t) ∧ (getE l p ≠ some v → W.heap.size ≤ g)
set_option maxHeartbeats 4000000 in
theorem tput_any (w : World) (t k v : Nat) (p : List Nat) (l : List En) (vp : Value) (ht : TrR w t k l) (hp : RdU w vp (pti p)) (hl : p.length = k) (ho : ∀ c ∈ p, c < 2 ^ 64) (hv : v < 2 ^ 64) :
    Calls Tryz.prog 59 #[.pointer (some ⟨t, 0, none⟩), vp, .int .u64 (v : Nat)] w fun e w' => PutP w t k p v l e w' := by
  have HPA := Lib.hid (path_any w t k p l vp ht hp hl ho)
  have HCK := Lib.hid (fun n c A => tchk_any w t k n c A ht.c0)
  have HV := Lib.hid hp
  obtain ⟨A2, c2, rfl, _⟩ := RdU.point hp
  rw [hl] at HPA HV ⊢
  have HD := Lib.hid (And.intro hl (And.intro ho (And.intro ht.k1 (And.intro ht.k16 hv))))
  have HT := Lib.hid ht
  clear ht hp hl ho hv
  go_enter Tryz.func59, Tryz.ntmps59
  go_wp2_with fail
  refine (HCK.out k c2 A2).mono ?_
  rintro e w1 ⟨rfl, hw⟩
  obtain rfl := hw.symm
  rw [if_pos rfl]
  go_wp2_with fail
  refine HPA.out.mono ?_
  rintro e w1 ⟨v0, bs, below, rfl, hown, hb, hbl, hcase⟩
  have hrd := hown.rdN
  rcases path_found HD.out.1 HD.out.2.1 HD.out.2.2.1 HD.out.2.2.2.1 hb hrd hbl hcase with ⟨hg, hlr, hf⟩ | ⟨x, bs0, b, hg, hbs, hch, hf⟩
  · have HF := Lib.hid hf
    have HB := Lib.hid hb
    have HR := Lib.hid (And.intro hrd hbl)
    have HG := Lib.hid (And.intro hg hlr)
    obtain ⟨A, c, rfl, _, _⟩ := hrd
    obtain ⟨bq, hbq⟩ := pv_ex below
    rw [hbq]
    have HBQ := Lib.hid hbq
    clear hf hb hcase hown hg hlr hbl hbq
    go_wp2_with fail
    refine HF.out.mono ?_
    rintro e w2 ⟨rfl, hb2⟩
    have HB2r := Lib.hid hb2
    have HB2 := Lib.hid (HB.out.trans (hb2.mono HB.out.size))
    clear hb2
    go_wp2_with fail
    have HLF := Lib.hid (fun w' (hb : Below w.heap.size w w') => nleaf_any w' p v _ (HV.out.below hb) (by have := HD.out; omega) (by have := HD.out; omega) HD.out.2.1 HD.out.2.2.2.2)
    refine (HLF.out _ (by repeat (first | exact HB2.out | (refine Below.drew ?_) | (refine below_drewN' ?_ _) | (refine below_alloc' ?_ _) | (refine Below.setCell ?_ (by first | exact Nat.le_refl _ | (have := HB2.out.size; simp; omega) | (have := HB2.out.size; omega)) _)))).mono ?_
    rintro e w3 ⟨g, rfl, hnd, hb3⟩
    have hb4 : Below w.heap.size w w3 := (show Below w.heap.size w _ from (by repeat (first | exact HB2.out | (refine Below.drew ?_) | (refine below_drewN' ?_ _) | (refine below_alloc' ?_ _) | (refine Below.setCell ?_ (by first | exact Nat.le_refl _ | (have := HB2.out.size; simp; omega) | (have := HB2.out.size; omega)) _)))).trans (hb3.mono (show w.heap.size ≤ _ from Below.size (by repeat (first | exact HB2.out | (refine Below.drew ?_) | (refine below_drewN' ?_ _) | (refine below_alloc' ?_ _) | (refine Below.setCell ?_ (by first | exact Nat.le_refl _ | (have := HB2.out.size; simp; omega) | (have := HB2.out.size; omega)) _)))))
    rw [HD.out.1] at hnd
    have hb1 : Below w1.heap.size w1 w3 := (show Below w1.heap.size w1 _ from (by repeat (first | exact HB2r.out | (refine Below.drew ?_) | (refine below_drewN' ?_ _) | (refine below_alloc' ?_ _) | (refine Below.setCell ?_ (by first | exact Nat.le_refl _ | (have := HB2r.out.size; simp; omega) | (have := HB2r.out.size; omega)) _)))).trans (hb3.mono (show w1.heap.size ≤ _ from Below.size (by repeat (first | exact HB2r.out | (refine Below.drew ?_) | (refine below_drewN' ?_ _) | (refine below_alloc' ?_ _) | (refine Below.setCell ?_ (by first | exact Nat.le_refl _ | (have := HB2r.out.size; simp; omega) | (have := HB2r.out.size; omega)) _)))))
    have HN := Lib.hid (And.intro hnd (And.intro hb4 (HR.out.1.below hb1)))
    clear hnd hb3 hb4 hb1
    obtain ⟨lr, hch, hr, hg0, hcv⟩ := HG.out.2
    cases below with
    | none =>
      obtain rfl : bq = none := by have := HBQ.out; rw [pv_none] at this; injection this with this; exact this.symm
      obtain rfl : lr = [] := hr
      have HUP := Lib.hid (up_any w3 t k g p bs l [] _ (insE p v) (Below.keeps HN.out.2.1 _ _ HT.out.c0) HD.out.2.2.1 HD.out.2.2.2.1 HN.out.2.2 (hch.bel HN.out.2.1) (opok_ins v HD.out.1 HD.out.2.1) HN.out.1 HR.out.2)
      clear hch hcv hg0
      go_wp2_with fail
      refine HUP.out.mono ?_
      rintro e w4 ⟨g4, rfl, ht4, hb4, hg4⟩
      have HF4 := Lib.hid (And.intro ht4 (And.intro (HN.out.2.1.trans (hb4.mono HN.out.2.1.size)) (Nat.le_trans HN.out.2.1.size hg4)))
      clear ht4 hb4 hg4
      go_wp2_with fail
      go_ret2
      exact ⟨g4, rfl, HF4.out.1, HF4.out.2.1, fun h => absurd (HG.out.1.symm.trans h) (by simp), fun _ => HF4.out.2.2⟩
    | some bb =>
      obtain rfl : bq = some ⟨bb, 0, none⟩ := by have := HBQ.out; rw [pv_some] at this; injection this with this; exact this.symm
      have hA : Nd w3 k bb lr := Nd.bel hr HN.out.2.1
      obtain ⟨m, hm1, hm2⟩ := part_lev hA HD.out.1 HD.out.2.1 (hcv bb rfl)
      have HPR := Lib.hid (npair_any w3 k bb g m lr [⟨p, v⟩] hA HN.out.1 (by rw [preL_one]; exact hm1) hm2 (by rw [lev_one]; omega) HD.out.2.2.1 HD.out.2.2.2.1)
      rw [preL_one, pair_list hA HN.out.1 HD.out.1 HD.out.2.1 hm1 hm2 (Nd.cov_none hA HD.out.1 HD.out.2.1 (hcv bb rfl))] at HPR
      have HUP := Lib.hid (fun w4 g4 (h : Below w3.heap.size w3 w4) (hn : Nd w4 k g4 (insE p v lr)) => up_any w4 t k g4 p bs l lr _ (insE p v) (Below.keeps (HN.out.2.1.trans (h.mono HN.out.2.1.size)) _ _ HT.out.c0) HD.out.2.2.1 HD.out.2.2.2.1 (HN.out.2.2.below h) (hch.bel (HN.out.2.1.trans (h.mono HN.out.2.1.size))) (opok_ins v HD.out.1 HD.out.2.1) hn HR.out.2)
      clear hch hcv hg0 hr hA hm1 hm2
      go_wp2_with fail
      refine HPR.out.mono ?_
      rintro e w4 ⟨g4, rfl, hn4, hb4⟩
      have HU4 := Lib.hid (And.intro (HUP.out w4 g4 hb4 hn4) (HN.out.2.1.trans (hb4.mono HN.out.2.1.size)))
      clear hn4 hb4
      go_wp2_with fail
      refine HU4.out.1.mono ?_
      rintro e w5 ⟨g5, rfl, ht4, hb4, hg4⟩
      have HF4 := Lib.hid (And.intro ht4 (And.intro (HU4.out.2.trans (hb4.mono HU4.out.2.size)) (Nat.le_trans HU4.out.2.size hg4)))
      clear ht4 hb4 hg4
      go_wp2_with fail
      go_ret2
      exact ⟨g5, rfl, HF4.out.1, HF4.out.2.1, fun h => absurd (HG.out.1.symm.trans h) (by simp), fun _ => HF4.out.2.2⟩
  · have HF := Lib.hid hf
    have HB := Lib.hid hb
    have HR := Lib.hid (And.intro hrd hbl)
    have HG := Lib.hid (And.intro hg (And.intro hbs hch))
    obtain ⟨A, c, rfl, _, _⟩ := hrd
    obtain ⟨bq, hbq⟩ := pv_ex below
    rw [hbq]
    clear hf hb hcase hown hg hbs hch hbl hbq
    go_wp2_with fail
    refine HF.out.mono ?_
    rintro e w2 ⟨u, rfl, hpt, hb2⟩
    obtain ⟨A9, c9, rfl, _⟩ := RdU.point hpt.rd
    have HB2r := Lib.hid hb2
    have HB2 := Lib.hid (HB.out.trans (hb2.mono HB.out.size))
    clear hb2 hpt
    by_cases hxv : x = v
    · subst hxv
      have h1 : ((x : Int) == (x : Int)) = true := by simp
      go_wp2_with fail
      go_ret2
      exact ⟨t, rfl, by rw [ins_same HT.out.et HD.out.1 HD.out.2.1 HG.out.1]; exact HT.out.bel (by repeat (first | exact HB2.out | (refine Below.drew ?_) | (refine below_drewN' ?_ _) | (refine below_alloc' ?_ _) | (refine Below.setCell ?_ (by first | exact Nat.le_refl _ | (have := HB2.out.size; simp; omega) | (have := HB2.out.size; omega)) _))), (by repeat (first | exact HB2.out | (refine Below.drew ?_) | (refine below_drewN' ?_ _) | (refine below_alloc' ?_ _) | (refine Below.setCell ?_ (by first | exact Nat.le_refl _ | (have := HB2.out.size; simp; omega) | (have := HB2.out.size; omega)) _))), fun _ => rfl, fun h => absurd HG.out.1 h⟩
    · have h1 : ((x : Int) == (v : Int)) = false := by simp; omega
      go_wp2_with fail
      have HLF := Lib.hid (fun w' (hb : Below w.heap.size w w') => nleaf_any w' p v _ (HV.out.below hb) (by have := HD.out; omega) (by have := HD.out; omega) HD.out.2.1 HD.out.2.2.2.2)
      refine (HLF.out _ (by repeat (first | exact HB2.out | (refine Below.drew ?_) | (refine below_drewN' ?_ _) | (refine below_alloc' ?_ _) | (refine Below.setCell ?_ (by first | exact Nat.le_refl _ | (have := HB2.out.size; simp; omega) | (have := HB2.out.size; omega)) _)))).mono ?_
      rintro e w3 ⟨g, rfl, hnd, hb3⟩
      have hb4 : Below w.heap.size w w3 := (show Below w.heap.size w _ from (by repeat (first | exact HB2.out | (refine Below.drew ?_) | (refine below_drewN' ?_ _) | (refine below_alloc' ?_ _) | (refine Below.setCell ?_ (by first | exact Nat.le_refl _ | (have := HB2.out.size; simp; omega) | (have := HB2.out.size; omega)) _)))).trans (hb3.mono (show w.heap.size ≤ _ from Below.size (by repeat (first | exact HB2.out | (refine Below.drew ?_) | (refine below_drewN' ?_ _) | (refine below_alloc' ?_ _) | (refine Below.setCell ?_ (by first | exact Nat.le_refl _ | (have := HB2.out.size; simp; omega) | (have := HB2.out.size; omega)) _)))))
      have hb1 : Below w1.heap.size w1 w3 := (show Below w1.heap.size w1 _ from (by repeat (first | exact HB2r.out | (refine Below.drew ?_) | (refine below_drewN' ?_ _) | (refine below_alloc' ?_ _) | (refine Below.setCell ?_ (by first | exact Nat.le_refl _ | (have := HB2r.out.size; simp; omega) | (have := HB2r.out.size; omega)) _)))).trans (hb3.mono (show w1.heap.size ≤ _ from Below.size (by repeat (first | exact HB2r.out | (refine Below.drew ?_) | (refine below_drewN' ?_ _) | (refine below_alloc' ?_ _) | (refine Below.setCell ?_ (by first | exact Nat.le_refl _ | (have := HB2r.out.size; simp; omega) | (have := HB2r.out.size; omega)) _)))))
      rw [HD.out.1] at hnd
      have hlen : bs.length = bs0.length + 1 := by rw [HG.out.2.1]; simp
      have HUP := Lib.hid (up_any w3 t k g p bs0 l _ (.slice A bs0.length c) (insE p v) (Below.keeps hb4 _ _ HT.out.c0) HD.out.2.2.1 HD.out.2.2.2.1 ((HR.out.1.below hb1).take HG.out.2.1 rfl) (HG.out.2.2.bel hb4) (opok_ins v HD.out.1 HD.out.2.1) (by rw [ins_one]; exact hnd) (by have := HR.out.2; omega))
      have HN := Lib.hid hb4
      have hc := HR.out.1
      obtain ⟨A', c', he1, hc, hA⟩ := hc
      injection he1 with he0 _ he1
      subst he1 he0
      obtain ⟨ga, rfl, _⟩ := hA (by rw [HG.out.2.1]; simp)
      have hc0 : ¬ c = 0 := by omega
      have hw0 : wrap64 (bs0.length : Int) = (bs0.length : Int) := by have := HR.out.2; unfold wrap64; omega
      have h2 : (0 : Int) ≤ (bs0.length : Int) := by omega
      have h3 : (bs0.length : Int) ≤ (c : Int) := by omega
      have HLE := Lib.hid hlen
      rw [hlen]
      clear hnd hb3 hb4 hb1 hlen hc hA
      go_wp2_with fail
      refine HUP.out.mono ?_
      rintro e w4 ⟨g4, rfl, ht4, hb4, hg4⟩
      have HF4 := Lib.hid (And.intro ht4 (And.intro (HN.out.trans (hb4.mono HN.out.size)) (Nat.le_trans HN.out.size hg4)))
      clear ht4 hb4 hg4
      go_wp2_with fail
      go_ret2
      exact ⟨g4, rfl, HF4.out.1, HF4.out.2.1, fun h => absurd (Option.some.inj (HG.out.1.symm.trans h)) hxv, fun _ => HF4.out.2.2⟩
end Go.Proofs.YtdkomhmciihkiaaGreat
/-! TrD -/
namespace Go.Proofs.YtdkomhmciihkiaaGreat
open Go.RowKit
set_option linter.unusedVariables false
set_option linter.unusedSimpArgs false

set_option maxRecDepth 100000
end Go.Proofs.YtdkomhmciihkiaaGreat
/-! TrE -/
namespace Go.Proofs.YtdkomhmciihkiaaGreat
open Go.RowKit
set_option linter.unusedVariables false
set_option linter.unusedSimpArgs false

set_option maxRecDepth 100000
theorem of_nil (w : World) (k : Nat) (k1 : 1 ≤ k) (k16 : k ≤ 16) :
    Calls Tryz.prog 60 #[.int .i64 (k : Nat), .pointer none] w fun e w' => ∃ g, e = .returned (.tuple #[.pointer (some ⟨g, 0, none⟩), .int .i64 0]) ∧ TrR w' g k [] ∧ Below w.heap.size w w' := by
  have HD := Lib.hid (And.intro k1 k16)
  have h1 : ¬ (k : Int) < 1 := by omega
  have h2 : ¬ (k : Int) > 16 := by omega
  have h3 : decide ((k : Int) < 1) = false := by simp; omega
  have h4 : decide ((k : Int) > 16) = false := by simp; omega
  clear k1 k16
  go_enter Tryz.func60, Tryz.ntmps60
  go_wp2_with fail
  go_ret2
  exact ⟨_, rfl, ⟨by simp [go_sem], ⟨none, by simp [go_sem, pv_none], rfl⟩, HD.out.1, HD.out.2, _, alloc_blk _ _⟩, (by repeat (first | exact Below.refl _ _ | (refine Below.drew ?_) | (refine below_drewN' ?_ _) | (refine below_alloc' ?_ _) | (refine Below.setCell ?_ (by first | exact Nat.le_refl _ | (simp; done) | (simp; omega)) _)))⟩
theorem tnew_any (w : World) (k : Nat) (k1 : 1 ≤ k) (k16 : k ≤ 16) :
    Calls Tryz.prog 15 #[.int .i64 (k : Nat)] w fun e w' => ∃ g, e = .returned (.tuple #[.pointer (some ⟨g, 0, none⟩), .int .i64 0]) ∧ TrR w' g k [] ∧ Below w.heap.size w w' := by
  have HO := Lib.hid (of_nil w k k1 k16)
  clear k1 k16
  go_enter Tryz.func15, Tryz.ntmps15
  go_wp2_with fail
  refine HO.out.mono ?_
  rintro e w1 ⟨g, rfl, ht, hb⟩
  have HT := Lib.hid (And.intro ht hb)
  clear ht hb
  go_wp2_with fail
  go_ret2
  exact ⟨g, rfl, HT.out.1, HT.out.2⟩
end Go.Proofs.YtdkomhmciihkiaaGreat
/-! Ent -/
namespace Go.Proofs.YtdkomhmciihkiaaGreat
open Go.RowKit
set_option linter.unusedVariables false

/-- the entry's two cells at block b, from o on -/
def EnAt (w : World) (b o : Nat) (e : En) : Prop :=
  ∃ v, w.cell? ⟨b, o, none⟩ = some v ∧ RdU w v (pti e.p) ∧ w.cell? ⟨b, o + 1, none⟩ = some (.int .u64 (e.v : Nat))
/-- the slice value v reads as the list l of entries -/
def RdE (w : World) (v : Value) (l : List En) : Prop :=
  ∃ A c, v = .slice A l.length c ∧ (l.length ≤ c ∧ c ≤ maxLen ∧ (0 < c → ∃ b o, A = some ⟨b, o, none⟩)) ∧ (0 < l.length → ∃ b o, A = some ⟨b, o, none⟩ ∧ ∀ j (h : j < l.length), EnAt w b (o + j * 2) l[j])
theorem EnAt.keep {w w' : World} {b o : Nat} {c : En} (h : EnAt w b o c) (hk : ∀ a x, w.cell? a = some x → w'.cell? a = some x) : EnAt w' b o c := by
  obtain ⟨v, h0, hv, h1⟩ := h
  exact ⟨v, hk _ _ h0, RdU.keep hv hk, hk _ _ h1⟩
theorem RdE.keep {w w' : World} {v : Value} {l : List En} (h : RdE w v l) (hk : ∀ a x, w.cell? a = some x → w'.cell? a = some x) : RdE w' v l := by
  obtain ⟨A, c, e, hl, h⟩ := h
  exact ⟨A, c, e, hl, fun hp => let ⟨b, o, ha, hc⟩ := h hp; ⟨b, o, ha, fun j hj => (hc j hj).keep hk⟩⟩
theorem RdE.below {w w' : World} {v : Value} {l : List En} (h : RdE w v l) (hb : Below w.heap.size w w') : RdE w' v l := RdE.keep h (Below.keeps hb)
theorem RdE.nil (w : World) (A : Option Addr) (c : Nat) (h : c ≤ maxLen) (h0 : 0 < c → ∃ b o, A = some ⟨b, o, none⟩) : RdE w (.slice A 0 c) [] := ⟨A, c, rfl, ⟨Nat.zero_le _, h, h0⟩, fun h => absurd h (by simp)⟩
/-- the cells cs hold the entries l, their points as they stand in w -/
def CellsL (w : World) : List En → List Value → Prop
  | [], cs => cs = []
  | e :: l, cs => ∃ u ds, cs = u :: .int .u64 (e.v : Nat) :: ds ∧ RdU w u (pti e.p) ∧ CellsL w l ds
def CellsE (w : World) (cs : List Value) (l : List En) : Prop := CellsL w l cs
theorem CellsE.nil (w : World) : CellsE w [] [] := rfl
theorem CellsE.length {w : World} {cs : List Value} {l : List En} (h : CellsE w cs l) : cs.length = l.length * 2 := by
  induction l generalizing cs with
  | nil => obtain rfl : cs = [] := h; rfl
  | cons e l ih => obtain ⟨u, ds, rfl, _, h⟩ := h; have := ih h; simp; omega
theorem CellsE.append {w : World} {cs ds : List Value} {l m : List En} (h : CellsE w cs l) (k : CellsE w ds m) : CellsE w (cs ++ ds) (l ++ m) := by
  induction l generalizing cs with
  | nil => obtain rfl : cs = [] := h; exact k
  | cons e l ih => obtain ⟨u, ds, rfl, hu, h⟩ := h; exact ⟨u, _, rfl, hu, ih h⟩
theorem CellsE.one {w : World} {u : Value} {p : List Nat} (v : Nat) (h : RdU w u (pti p)) : CellsE w [u, .int .u64 v] [⟨p, v⟩] := ⟨u, [], rfl, h, rfl⟩
theorem CellsE.keep {w w' : World} {cs : List Value} {l : List En} (h : CellsE w cs l) (hk : ∀ a x, w.cell? a = some x → w'.cell? a = some x) : CellsE w' cs l := by
  induction l generalizing cs with
  | nil => exact h
  | cons e l ih => obtain ⟨u, ds, rfl, hu, h⟩ := h; exact ⟨u, ds, rfl, hu.keep hk, ih h⟩
theorem CellsE.oneCell {w : World} {cs : List Value} {l : List En} (h : CellsE w cs l) : ∀ u ∈ cs, u.oneCell' = true := by
  induction l generalizing cs with
  | nil => obtain rfl : cs = [] := h; intro u hu; simp at hu
  | cons e l ih =>
    obtain ⟨u, ds, rfl, hu, h⟩ := h
    intro y hy
    rcases List.mem_cons.1 hy with rfl | hy
    · exact RdU.one' hu
    · rcases List.mem_cons.1 hy with rfl | hy
      · rfl
      · exact ih h y hy
theorem CellsE.at {w w' : World} {cs : List Value} {l : List En} (h : CellsE w cs l) (hk : ∀ a x, w.cell? a = some x → w'.cell? a = some x) {b o : Nat} (hc : ∀ j (h : j < cs.length), w'.cell? ⟨b, o + j, none⟩ = some cs[j]) :
    ∀ j (h : j < l.length), EnAt w' b (o + j * 2) l[j] := by
  induction l generalizing cs o with
  | nil => intro j hj; simp at hj
  | cons e l ih =>
    obtain ⟨u, ds, rfl, hu, h⟩ := h
    · intro j hj
      cases j with
      | zero =>
        have c0 := hc 0 (by simp)
        have c1 := hc 1 (by simp)
        simp only [List.getElem_cons_zero, List.getElem_cons_succ, Nat.add_zero] at c0 c1
        simp only [List.getElem_cons_zero, Nat.zero_mul, Nat.add_zero]
        exact ⟨u, c0, hu.keep hk, c1⟩
      | succ j =>
        have := ih h (o := o + 2) (fun i hi => by
          have := hc (i + 2) (by simpa using hi)
          simp only [List.getElem_cons_succ] at this
          rw [show o + 2 + i = o + (i + 2) by omega]; exact this) j (by simpa using hj)
        simp only [List.getElem_cons_succ]
        rw [show o + (j + 1) * 2 = o + 2 + j * 2 by omega]; exact this
/-- v is a row of the call's own (the call began in W) that holds the entries l -/
def OwnE (W w : World) (v : Value) (l : List En) : Prop := ∃ cs, w.ownsRow W.heap.size 35 2 v l.length cs ∧ CellsE W cs l
theorem OwnE.rd {W w : World} {v : Value} {l : List En} (h : OwnE W w v l) (hb : Below W.heap.size W w) : RdE w v l := by
  obtain ⟨cs, ho, hc⟩ := h
  obtain ⟨h1, h2⟩ := ho
  rcases h2 with ⟨rfl, h0⟩ | ⟨g, cap, cur, rfl, hg, hh, hcap, hm, hs, ht⟩
  · exact ⟨none, 0, by rw [h0], ⟨by omega, Nat.zero_le _, fun h => absurd h (by omega)⟩, fun hp => absurd hp (by omega)⟩
  · refine ⟨_, _, rfl, ⟨hcap, hm, fun h => ⟨g, 0, rfl⟩⟩, fun hp => ⟨g, 0, rfl, hc.at (Below.keeps hb) fun j hj => ?_⟩⟩
    have h3 : cs[j]? = some cs[j] := List.getElem?_eq_getElem hj
    have h4 : j < l.length * 2 := by omega
    rw [← h3, ← ht, List.getElem?_take_of_lt h4, World.cell?]
    simp only [hh, Nat.zero_add]
    simp
theorem OwnE.nil (W w : World) : OwnE W w (.slice none 0 0) [] := ⟨[], World.ownsRow_nil _ _ _ _, rfl⟩
/-- entries to be appended -/
def SrcE (W w : World) (x : Value) (m : List En) : Prop := ∃ cs, CellsE W cs m ∧ Src w 2 m.length x cs
theorem SrcE.one {W w : World} {b c : Nat} {u : Value} {p : List Nat} {v : Nat} (h0 : w.cell? ⟨b, 0, none⟩ = some u) (hu : RdU W u (pti p)) (h1 : w.cell? ⟨b, 1, none⟩ = some (.int .u64 v)) : SrcE W w (.slice (some ⟨b, 0, none⟩) 1 c) [⟨p, v⟩] :=
  ⟨[u, .int .u64 v], CellsE.one v hu, rfl, (CellsE.one v hu).oneCell, _, c, rfl, (fun h => by cases h), fun ad had j x hj => by
    injection had with had; subst had
    match j with
    | 0 => simp at hj; subst hj; simpa [Addr.add] using h0
    | 1 => simp at hj; subst hj; simpa [Addr.add] using h1
    | j + 2 => simp at hj⟩
theorem RdE.take {w : World} {A : Option Addr} {c : Nat} {l : List En} (h : RdE w (.slice A l.length c) l) (k : Nat) (hk : k ≤ l.length) : RdE w (.slice A k c) (l.take k) := by
  obtain ⟨A', c', e, ⟨h1, h2, h3⟩, hm⟩ := h
  injection e with e1 _ e2
  subst e1 e2
  refine ⟨A, c, by rw [List.length_take, Nat.min_eq_left hk], ⟨by rw [List.length_take]; omega, h2, h3⟩, fun hp => ?_⟩
  rw [List.length_take] at hp
  obtain ⟨b, o, ha, hc⟩ := hm (by omega)
  refine ⟨b, o, ha, fun j hj => ?_⟩
  rw [List.length_take] at hj
  have := hc j (by omega)
  rw [List.getElem_take]
  exact this

theorem OwnE.alloc {W w : World} {v : Value} {l : List En} (h : OwnE W w v l) (o : Obj) : OwnE W (w.alloc o) v l := let ⟨cs, h1, h2⟩ := h; ⟨cs, h1.alloc o, h2⟩
theorem OwnE.drew {W w : World} {v : Value} {l : List En} (h : OwnE W w v l) : OwnE W w.drew v l := h
theorem OwnE.below {W w w' : World} {v : Value} {l : List En} (h : OwnE W w v l) (hb : Below w.heap.size w w') : OwnE W w' v l := by
  obtain ⟨cs, ⟨h1, h2⟩, h3⟩ := h
  refine ⟨cs, ⟨h1, ?_⟩, h3⟩
  rcases h2 with h2 | ⟨g, cap, cur, q1, q2, q3, q4⟩
  · exact .inl h2
  · exact .inr ⟨g, cap, cur, q1, q2, (hb.block g (Array.getElem?_eq_some_iff.1 q3).1).trans q3, q4⟩
end Go.Proofs.YtdkomhmciihkiaaGreat
/-! Ref06 -/
namespace Go.Proofs.YtdkomhmciihkiaaGreat
open Go.RowKit
set_option linter.unusedVariables false

/-- the lists that are walked here -/
structure EtS (k : Nat) (l : List En) : Prop where
  et : Et k l
  k40 : k ≤ 40
  short : l.length ≤ 1000
end Go.Proofs.YtdkomhmciihkiaaGreat
/-! Ref06b -/
namespace Go.Proofs.YtdkomhmciihkiaaGreat
open Go.RowKit
set_option linter.unusedVariables false
set_option linter.unusedSimpArgs false

/-- a slice of entries is handed back -/
def RetE (W : World) (l : List En) (e : Ending) (w' : World) : Prop := ∃ v, e = .returned v ∧ RdE w' v l ∧ Below W.heap.size W w'
theorem RetE.mk {W w' : World} {l : List En} {v : Value} (h : RdE w' v l) (hb : Below W.heap.size W w') : RetE W l (.returned v) w' := ⟨v, rfl, h, hb⟩

theorem EtS.del {k : Nat} {l : List En} (h : EtS k l) (p : List Nat) : EtS k (delE p l) := ⟨h.et.del p, h.k40, Nat.le_trans Od.del_length h.short⟩
end Go.Proofs.YtdkomhmciihkiaaGreat
/-! TrF -/
namespace Go
end Go
namespace Go.Proofs.YtdkomhmciihkiaaGreat
open Go.RowKit
set_option linter.unusedVariables false
set_option linter.unusedSimpArgs false

/-- an act -/
structure Ac where
  del : Bool
  p : List Nat
  v : Nat
deriving Inhabited
/-- what an act makes of a list -/
def stepL (k : Nat) (l : List En) (a : Ac) : List En := if a.p.length = k then (if a.del then delE a.p l else insE a.p a.v l) else l
def Ac.Ok (a : Ac) : Prop := a.p.length ≤ 40 ∧ (∀ c ∈ a.p, c < 2 ^ 64) ∧ a.v < 2 ^ 64
theorem Et.step {k : Nat} {l : List En} (h : Et k l) (a : Ac) (ha : a.Ok) : Et k (stepL k l a) := by
  unfold stepL
  split
  · split
    · exact h.del _
    · exact h.ins _ (by assumption) ha.2.1
  · exact h
set_option maxRecDepth 100000
end Go.Proofs.YtdkomhmciihkiaaGreat
/-! TrG -/
namespace Go.Proofs.YtdkomhmciihkiaaGreat
open Go.RowKit
set_option linter.unusedVariables false
set_option linter.unusedSimpArgs false

/-- an act at a block's offset -/
def AcAt (w : World) (b o : Nat) (a : Ac) : Prop := ∃ u, w.cell? ⟨b, o, none⟩ = some (.bool a.del) ∧ w.cell? ⟨b, o + 1, none⟩ = some u ∧ RdU w u (pti a.p) ∧ w.cell? ⟨b, o + 2, none⟩ = some (.int .u64 (a.v : Nat))
theorem AcAt.keep {w w' : World} {b o : Nat} {a : Ac} (h : AcAt w b o a) (hk : ∀ a x, w.cell? a = some x → w'.cell? a = some x) : AcAt w' b o a := by
  obtain ⟨u, h0, h1, h2, h3⟩ := h
  exact ⟨u, hk _ _ h0, hk _ _ h1, RdU.keep h2 hk, hk _ _ h3⟩
/-- the slice value v reads as the list l of acts -/
def RdA (w : World) (v : Value) (l : List Ac) : Prop :=
  ∃ A c, v = .slice A l.length c ∧ (0 < l.length → ∃ b o, A = some ⟨b, o, none⟩ ∧ ∀ j (h : j < l.length), AcAt w b (o + j * 3) l[j])
theorem RdA.keep {w w' : World} {v : Value} {l : List Ac} (h : RdA w v l) (hk : ∀ a x, w.cell? a = some x → w'.cell? a = some x) : RdA w' v l := by
  obtain ⟨A, c, e, h⟩ := h
  exact ⟨A, c, e, fun hp => let ⟨b, o, ha, hc⟩ := h hp; ⟨b, o, ha, fun j hj => (hc j hj).keep hk⟩⟩
theorem RdA.below {w w' : World} {v : Value} {l : List Ac} (h : RdA w v l) (hb : Below w.heap.size w w') : RdA w' v l := RdA.keep h (Below.keeps hb)
set_option maxRecDepth 100000
end Go.Proofs.YtdkomhmciihkiaaGreat
/-! RefA -/
namespace Go.Proofs.YtdkomhmciihkiaaGreat
open Go.RowKit
set_option linter.unusedVariables false
set_option linter.unusedSimpArgs false

set_option maxRecDepth 100000
end Go.Proofs.YtdkomhmciihkiaaGreat
/-! RefK -/
namespace Go.Proofs.YtdkomhmciihkiaaGreat
open Go.RowKit
set_option linter.unusedVariables false
set_option linter.unusedSimpArgs false

set_option maxRecDepth 100000
/-- a slice of slices of entries is handed back: parts of a list that is read in W -/
def GrpP (W0 W : World) (gs : List (List En)) (w' : World) (v : Value) : Prop := ∃ vs : List Value, OwnV 44 W w' v vs ∧ vs.length = gs.length ∧ ∀ i (h : i < vs.length) (h' : i < gs.length), RdE W0 vs[i] gs[i]
end Go.Proofs.YtdkomhmciihkiaaGreat
/-! RefL -/
namespace Go.Proofs.YtdkomhmciihkiaaGreat
open Go.RowKit
set_option linter.unusedVariables false
set_option linter.unusedSimpArgs false

theorem GrpP.below {W0 W w w' : World} {gs : List (List En)} {v : Value} (h : GrpP W0 W gs w v) (hb : Below w.heap.size w w') : GrpP W0 W gs w' v := let ⟨vs, h1, h2⟩ := h; ⟨vs, h1.below hb, h2⟩
set_option maxRecDepth 100000
end Go.Proofs.YtdkomhmciihkiaaGreat
/-! RefS -/
namespace Go.Proofs.YtdkomhmciihkiaaGreat
open Go.RowKit
set_option linter.unusedVariables false
set_option linter.unusedSimpArgs false

/-- a value reads as a shape -/
def ShR (w : World) (x : Value) (s : Sh) : Prop := ∃ u pl, x = .agg #[.int .i64 s.lv, u, pl, .bool s.dense, .int .u64 (s.v : Nat)] ∧ RdU w u (pti s.pre) ∧ Sl w pl (s.pl.map fun (x : Nat) => Value.int .i64 (x : Nat))
theorem ShR.below {w w' : World} {x : Value} {s : Sh} (h : ShR w x s) (hb : Below w.heap.size w w') : ShR w' x s := let ⟨u, pl, h1, h2, h3⟩ := h; ⟨u, pl, h1, h2.below hb, h3.below hb⟩
theorem ShV.rd {W w : World} {s : Sh} {x : Value} (h : ShV W w s x) : ShR w x s := let ⟨u, p9, h1, h2, h3⟩ := h.ex; ⟨u, p9, h1, h2.rd, h3.rd⟩
/-- a shape whose rows are told apart from rows of shapes by their blocks' types, or were there in W0 -/
def ShK (W0 W w : World) (x : Value) (s : Sh) : Prop := ∃ u pl, x = .agg #[.int .i64 s.lv, u, pl, .bool s.dense, .int .u64 (s.v : Nat)] ∧ (RdU W0 u (pti s.pre) ∨ PtNew w u s.pre) ∧ OwnV 3 W w pl (s.pl.map fun (x : Nat) => Value.int .i64 (x : Nat))
theorem ShK.below {W0 W w w' : World} {x : Value} {s : Sh} (h : ShK W0 W w x s) (hb : Below w.heap.size w w') : ShK W0 W w' x s := by
  obtain ⟨u, pl, h1, h2, h3⟩ := h
  exact ⟨u, pl, h1, h2.imp id (·.below hb), h3.below hb⟩
theorem ShK.rd {W0 W w : World} {x : Value} {s : Sh} (h : ShK W0 W w x s) (hb : Below W0.heap.size W0 w) : ShR w x s := by
  obtain ⟨u, pl, h1, h2, h3⟩ := h
  exact ⟨u, pl, h1, h2.elim (·.below hb) (·.rd), h3.rd⟩
theorem ShV.k {W0 W w : World} {s : Sh} {x : Value} (h : ShV W w s x) : ShK W0 W w x s := let ⟨u, p9, h1, h2, h3⟩ := h.ex; ⟨u, p9, h1, .inr h2, h3⟩
theorem Kd.k1 {k n : Nat} {pre : List Nat} {ks : List (Nat × List En)} (h : Kd k n pre ks) : 1 ≤ k := by
  obtain ⟨x, hx, y, hy, hlt, _⟩ := h.ends
  have h1 := h.addr_lt hy
  rcases Nat.eq_zero_or_pos k with rfl | h0
  · simp at h1; omega
  · exact h0
set_option maxRecDepth 100000
end Go.Proofs.YtdkomhmciihkiaaGreat
/-! RefT -/
namespace Go.Proofs.YtdkomhmciihkiaaGreat
open Go.RowKit
set_option linter.unusedVariables false
set_option linter.unusedSimpArgs false
set_option maxRecDepth 100000

theorem OwnV.cellsAt {t : TypeId} {W w : World} {g n c : Nat} {l : List Value} (h : OwnV t W w (.slice (some ⟨g, 0, none⟩) n c) l) (h0 : l ≠ []) : ∀ j (hj : j < l.length), w.cell? ⟨g, j, none⟩ = some l[j] := by
  obtain ⟨g', n', e, _, hc⟩ := h.cells h0
  injection e with e _ _
  injection e with e
  injection e with e _ _
  subst e
  exact hc
end Go.Proofs.YtdkomhmciihkiaaGreat
/-! RowS -/
namespace Go.Proofs.YtdkomhmciihkiaaGreat
open Go.RowKit
set_option linter.unusedVariables false
set_option linter.unusedSimpArgs false

/-- a shape's rows: the point's, the places' -/
abbrev PtS' := Value → Value → Sh → Prop
/-- the cells cs hold the shapes l, Pt saying what their rows read as -/
def CellsS (Pt : PtS') : List Sh → List Value → Prop
  | [], cs => cs = []
  | s :: l, cs => ∃ u pl ds, cs = .int .i64 s.lv :: u :: pl :: .bool s.dense :: .int .u64 (s.v : Nat) :: ds ∧ Pt u pl s ∧ CellsS Pt l ds
theorem CellsS.length {Pt : PtS'} {cs : List Value} {l : List Sh} (h : CellsS Pt l cs) : cs.length = l.length * 5 := by
  induction l generalizing cs with
  | nil => obtain rfl : cs = [] := h; rfl
  | cons e l ih => obtain ⟨u, pl, ds, rfl, _, h⟩ := h; have := ih h; simp; omega
theorem CellsS.append {Pt : PtS'} {cs ds : List Value} {l m : List Sh} (h : CellsS Pt l cs) (k : CellsS Pt m ds) : CellsS Pt (l ++ m) (cs ++ ds) := by
  induction l generalizing cs with
  | nil => obtain rfl : cs = [] := h; exact k
  | cons e l ih => obtain ⟨u, pl, ds, rfl, hu, h⟩ := h; exact ⟨u, pl, _, rfl, hu, ih h⟩
theorem CellsS.mono {Pt Qt : PtS'} {cs : List Value} {l : List Sh} (h : CellsS Pt l cs) (hk : ∀ u p s, Pt u p s → Qt u p s) : CellsS Qt l cs := by
  induction l generalizing cs with
  | nil => exact h
  | cons e l ih => obtain ⟨u, pl, ds, rfl, hu, h⟩ := h; exact ⟨u, pl, ds, rfl, hk _ _ _ hu, ih h⟩
/-- rows are slices -/
def SlicesP (Pt : PtS') : Prop := ∀ u p s, Pt u p s → u.oneCell' = true ∧ p.oneCell' = true
theorem CellsS.oneCell {Pt : PtS'} (hp : SlicesP Pt) {cs : List Value} {l : List Sh} (h : CellsS Pt l cs) : ∀ u ∈ cs, u.oneCell' = true := by
  induction l generalizing cs with
  | nil => obtain rfl : cs = [] := h; intro u hu; simp at hu
  | cons e l ih =>
    obtain ⟨u, pl, ds, rfl, hu, h⟩ := h
    intro y hy
    simp only [List.mem_cons] at hy
    rcases hy with rfl | rfl | rfl | rfl | rfl | hy
    · rfl
    · exact (hp _ _ _ hu).1
    · exact (hp _ _ _ hu).2
    · rfl
    · rfl
    · exact ih h y hy
/-- a shape at a block's offset -/
def ShAt (Pt : PtS') (w : World) (b o : Nat) (s : Sh) : Prop := ∃ u pl, w.cell? ⟨b, o, none⟩ = some (.int .i64 s.lv) ∧ w.cell? ⟨b, o + 1, none⟩ = some u ∧ w.cell? ⟨b, o + 2, none⟩ = some pl ∧ w.cell? ⟨b, o + 3, none⟩ = some (.bool s.dense) ∧ w.cell? ⟨b, o + 4, none⟩ = some (.int .u64 (s.v : Nat)) ∧ Pt u pl s
theorem CellsS.at {Pt : PtS'} {w : World} {cs : List Value} {l : List Sh} (h : CellsS Pt l cs) {b o : Nat} (hc : ∀ j (h : j < cs.length), w.cell? ⟨b, o + j, none⟩ = some cs[j]) :
    ∀ j (h : j < l.length), ShAt Pt w b (o + j * 5) l[j] := by
  induction l generalizing cs o with
  | nil => intro j hj; simp at hj
  | cons e l ih =>
    obtain ⟨u, pl, ds, rfl, hu, h⟩ := h
    · intro j hj
      cases j with
      | zero =>
        have c0 := hc 0 (by simp)
        have c1 := hc 1 (by simp)
        have c2 := hc 2 (by simp)
        have c3 := hc 3 (by simp)
        have c4 := hc 4 (by simp)
        simp only [List.getElem_cons_zero, List.getElem_cons_succ, Nat.add_zero] at c0 c1 c2 c3 c4
        simp only [List.getElem_cons_zero, Nat.zero_mul, Nat.add_zero]
        exact ⟨u, pl, c0, c1, c2, c3, c4, hu⟩
      | succ j =>
        have := ih h (o := o + 5) (fun i hi => by
          have := hc (i + 5) (by simpa using hi)
          simp only [List.getElem_cons_succ] at this
          rw [show o + 5 + i = o + (i + 5) by omega]; exact this) j (by simpa using hj)
        simp only [List.getElem_cons_succ]
        rw [show o + (j + 1) * 5 = o + 5 + j * 5 by omega]; exact this
/-- the slice value v reads as the list l of shapes -/
def RdS (Pt : PtS') (w : World) (v : Value) (l : List Sh) : Prop :=
  ∃ A c, v = .slice A l.length c ∧ (0 < l.length → ∃ b, A = some ⟨b, 0, none⟩ ∧ ∀ j (h : j < l.length), ShAt Pt w b (j * 5) l[j])
/-- v is a row of the call's own (the call began in W) that holds the shapes l -/
def OwnS (Pt : PtS') (W w : World) (v : Value) (l : List Sh) : Prop := ∃ cs, w.ownsRow W.heap.size 222 5 v l.length cs ∧ CellsS Pt l cs
theorem OwnS.cellsAt {W w : World} {v : Value} {l : List Sh} {cs : List Value} (ho : w.ownsRow W.heap.size 222 5 v l.length cs) (hl : cs.length = l.length * 5) :
    (v = .slice none 0 0 ∧ l.length = 0) ∨ ∃ g cap, v = .slice (some ⟨g, 0, none⟩) l.length cap ∧ ∀ j (h : j < cs.length), w.cell? ⟨g, j, none⟩ = some cs[j] := by
  obtain ⟨h1, h2⟩ := ho
  rcases h2 with ⟨rfl, h0⟩ | ⟨g, cap, cur, rfl, hg, hh, hcap, hm, hs, ht⟩
  · exact .inl ⟨rfl, h0⟩
  · refine .inr ⟨g, cap, rfl, fun j hj => ?_⟩
    have h3 : cs[j]? = some cs[j] := List.getElem?_eq_getElem hj
    have h4 : j < l.length * 5 := by omega
    rw [← h3, ← ht, List.getElem?_take_of_lt h4, World.cell?]
    simp only [hh]
    simp
theorem OwnS.rd {Pt : PtS'} {W w : World} {v : Value} {l : List Sh} (h : OwnS Pt W w v l) : RdS Pt w v l := by
  obtain ⟨cs, ho, hc⟩ := h
  rcases OwnS.cellsAt ho hc.length with ⟨rfl, h0⟩ | ⟨g, cap, rfl, h1⟩
  · exact ⟨none, 0, by rw [h0], fun hp => absurd hp (by omega)⟩
  · refine ⟨_, _, rfl, fun h0 => ⟨g, rfl, fun j hj => ?_⟩⟩
    have := hc.at (b := g) (o := 0) (w := w) (fun j hj => by rw [Nat.zero_add]; exact h1 j hj) j hj
    rw [Nat.zero_add] at this; exact this
theorem OwnS.nil (Pt : PtS') (W w : World) : OwnS Pt W w (.slice none 0 0) [] := ⟨[], World.ownsRow_nil _ _ _ _, rfl⟩
theorem OwnS.mono {Pt Qt : PtS'} {W w : World} {v : Value} {l : List Sh} (h : OwnS Pt W w v l) (hk : ∀ u p s, Pt u p s → Qt u p s) : OwnS Qt W w v l := let ⟨cs, h1, h2⟩ := h; ⟨cs, h1, h2.mono hk⟩
theorem OwnS.below {Pt : PtS'} {W w w' : World} {v : Value} {l : List Sh} (h : OwnS Pt W w v l) (hb : Below w.heap.size w w') : OwnS Pt W w' v l := by
  obtain ⟨cs, ⟨h1, h2⟩, h3⟩ := h
  refine ⟨cs, ⟨h1, ?_⟩, h3⟩
  rcases h2 with h2 | ⟨g, cap, cur, q1, q2, q3, q4⟩
  · exact .inl h2
  · exact .inr ⟨g, cap, cur, q1, q2, (hb.block g (Array.getElem?_eq_some_iff.1 q3).1).trans q3, q4⟩
theorem OwnS.block {Pt : PtS'} {W w : World} {v : Value} {l : List Sh} (h : OwnS Pt W w v l) : ∀ k, v.ownBlock = some k → W.heap.size ≤ k ∧ ∃ cur, w.heap[k]? = some (.cells cur 222 (0, 0)) := by
  obtain ⟨cs, ⟨h1, h2⟩, h3⟩ := h
  intro k hk
  rcases h2 with ⟨rfl, _⟩ | ⟨g, cap, cur, rfl, q2, q3, q4⟩
  · cases hk
  · injection hk with hk; subst hk; exact ⟨q2, cur, q3⟩
theorem OwnS.grown {Pt : PtS'} {W w w' : World} {v : Value} {l : List Sh} (h : OwnS Pt W w v l) (hb : Below W.heap.size W w) (hg : w.grownBy w' v.ownBlock) : Below W.heap.size W w' :=
  hb.grown hg hb.size fun k hk => (h.block k hk).1
/-- shapes to be appended -/
def SrcS (Pt : PtS') (w : World) (x : Value) (m : List Sh) : Prop := ∃ cs, CellsS Pt m cs ∧ Src w 5 m.length x cs
theorem SrcS.one {Pt : PtS'} (hp : SlicesP Pt) {w : World} {b cc : Nat} {s : Sh} {u pl : Value} (hu : Pt u pl s) (k0 : w.cell? ⟨b, 0, none⟩ = some (.int .i64 s.lv)) (k1 : w.cell? ⟨b, 1, none⟩ = some u) (k2 : w.cell? ⟨b, 2, none⟩ = some pl)
    (k3 : w.cell? ⟨b, 3, none⟩ = some (.bool s.dense)) (k4 : w.cell? ⟨b, 4, none⟩ = some (.int .u64 (s.v : Nat))) : SrcS Pt w (.slice (some ⟨b, 0, none⟩) 1 cc) [s] := by
  have hn : CellsS Pt [s] [.int .i64 s.lv, u, pl, .bool s.dense, .int .u64 (s.v : Nat)] := ⟨u, pl, [], rfl, hu, rfl⟩
  refine ⟨_, hn, rfl, hn.oneCell hp, _, cc, rfl, (fun h => by cases h), fun ad had j x hj => ?_⟩
  injection had with had; subst had
  match j with
  | 0 => simp at hj; subst hj; simpa [Addr.add] using k0
  | 1 => simp at hj; subst hj; simpa [Addr.add] using k1
  | 2 => simp at hj; subst hj; simpa [Addr.add] using k2
  | 3 => simp at hj; subst hj; simpa [Addr.add] using k3
  | 4 => simp at hj; subst hj; simpa [Addr.add] using k4
  | j + 5 => simp at hj
end Go.Proofs.YtdkomhmciihkiaaGreat
/-! RefU -/
namespace Go.Proofs.YtdkomhmciihkiaaGreat
open Go.RowKit
set_option linter.unusedVariables false
set_option linter.unusedSimpArgs false
set_option maxRecDepth 100000

/-- what a shape's rows read as -/
def PtK (W0 W w : World) : PtS' := fun u pl s => (RdU W0 u (pti s.pre) ∨ PtNew w u s.pre) ∧ OwnV 3 W w pl (s.pl.map fun (x : Nat) => Value.int .i64 (x : Nat))
theorem PtK.below {W0 W w w' : World} (hb : Below w.heap.size w w') : ∀ u p s, PtK W0 W w u p s → PtK W0 W w' u p s := fun u p s h => ⟨h.1.imp id (·.below hb), h.2.below hb⟩
theorem PtK.base {W0 W W' w : World} (hs : W.heap.size ≤ W'.heap.size) : ∀ u p s, PtK W0 W' w u p s → PtK W0 W w u p s := fun u p s h => ⟨h.1, h.2.base hs⟩
theorem PtK.grown {W0 W w w' : World} {Pt : PtS'} {v : Value} {l : List Sh} (ho : OwnS Pt W w v l) (hg : w.grownBy w' v.ownBlock) : ∀ u p s, PtK W0 W w u p s → PtK W0 W w' u p s := by
  have key : ∀ {b : Nat} {cur : Array Value} {t : TypeId} {fr : Nat × Nat}, t ≠ 222 → w.heap[b]? = some (.cells cur t fr) → w'.heap[b]? = w.heap[b]? := fun ht hb =>
    hg.block _ (kr_lt hb) fun e => by
      obtain ⟨_, c2, h2⟩ := ho.block _ e.symm
      rw [hb] at h2
      injection h2 with h2
      injection h2 with _ h2 _
      exact ht h2
  exact fun u p s h => ⟨h.1.imp id (·.keepBlock fun b cur fr hb => key (by decide) hb), h.2.keepBlock fun b cur hb => key (by decide) hb⟩
theorem flat_len (ks : List (Nat × List En)) (h : ∀ x ∈ ks, (shapesL x.2).length + 1 ≤ 2 * x.2.length) : (ks.flatMap fun x => shapesL x.2).length + ks.length ≤ 2 * (cat ks).length := by
  induction ks with
  | nil => simp [cat]
  | cons x ks ih =>
    have h1 := h x (by simp)
    have h2 := ih fun y hy => h y (by simp [hy])
    unfold cat at h2 ⊢
    simp only [List.flatMap_cons, List.length_append, List.length_cons]
    omega
theorem Tn.len {k : Nat} {l : List En} (h : Tn k l) : (shapesL l).length + 1 ≤ 2 * l.length := by
  induction h with
  | one e h => rw [shapes_one]; simp
  | node n pre ks hk hn ih =>
    rw [Tn.shapes hk hn]
    have := flat_len ks ih
    have h2 := hk.two
    simp only [List.length_cons]
    omega
end Go.Proofs.YtdkomhmciihkiaaGreat
/-! RefV -/
namespace Go.Proofs.YtdkomhmciihkiaaGreat
open Go.RowKit
set_option linter.unusedVariables false
set_option linter.unusedSimpArgs false
set_option maxRecDepth 100000

end Go.Proofs.YtdkomhmciihkiaaGreat
/-! RefW -/
namespace Go.Proofs.YtdkomhmciihkiaaGreat
open Go.RowKit
set_option linter.unusedVariables false
set_option linter.unusedSimpArgs false
set_option maxRecDepth 100000

/-- a shape's rows, read -/
def PtR (w : World) : PtS' := fun u pl s => RdU w u (pti s.pre) ∧ Sl w pl (s.pl.map fun (x : Nat) => Value.int .i64 (x : Nat))
theorem PtK.rd {W0 W w : World} (hb : Below W0.heap.size W0 w) : ∀ u p s, PtK W0 W w u p s → PtR w u p s := fun u p s h => ⟨h.1.elim (·.below hb) (·.rd), h.2.rd⟩
theorem PtR.below {w w' : World} (hb : Below w.heap.size w w') : ∀ u p s, PtR w u p s → PtR w' u p s := fun u p s h => ⟨h.1.below hb, h.2.below hb⟩
end Go.Proofs.YtdkomhmciihkiaaGreat
/-! RefX -/
namespace Go.Proofs.YtdkomhmciihkiaaGreat
open Go.RowKit
set_option linter.unusedVariables false
set_option linter.unusedSimpArgs false
set_option maxRecDepth 100000

/-- the sums that are being made: the block's cells -/
def SB (w : World) (G : Nat) (S : Sm) : Prop := w.heap[G]? = some (.cells #[.int .u64 (S.n : Nat), .int .u64 (S.s : Nat), .int .u64 (S.mn : Nat), .int .u64 (S.mx : Nat)] 217 (0, 0))
theorem SB.cell {w : World} {G : Nat} {S : Sm} (h : SB w G S) (i : Nat) : w.cell? ⟨G, i, none⟩ = (#[.int .u64 (S.n : Nat), .int .u64 (S.s : Nat), .int .u64 (S.mn : Nat), .int .u64 (S.mx : Nat)] : Array Value)[i]? := by
  unfold SB at h; simp [World.cell?, h]
/-- one more -/
def Sm.step (S : Sm) (j v : Nat) : Sm := ⟨(S.n + 1) % 2 ^ 64, (S.s + v) % 2 ^ 64, if j = 0 ∨ v < S.mn then v else S.mn, if S.mx < v then v else S.mx⟩
end Go.Proofs.YtdkomhmciihkiaaGreat
/-! TrS -/
namespace Go.Proofs.YtdkomhmciihkiaaGreat
open Go.RowKit
set_option linter.unusedVariables false
set_option linter.unusedSimpArgs false
set_option maxRecDepth 100000

theorem OwnV.last {t : TypeId} {W w : World} {v x : Value} {l : List Value} (h : OwnV t W w v (l ++ [x])) :
    ∃ g c, v = .slice (some ⟨g, 0, none⟩) (l.length + 1) c ∧ w.cell? ⟨g, l.length, none⟩ = some x ∧ OwnV t W w (.slice (some ⟨g, 0, none⟩) l.length c) l ∧ l.length + 1 ≤ c := by
  obtain ⟨g, c, rfl, hg, hc⟩ := h.cells (by simp)
  have hc' := hc l.length (by simp)
  obtain ⟨h1, h2⟩ := h
  rw [List.length_append, List.length_singleton] at h2 ⊢
  rcases h2 with ⟨h2, _⟩ | ⟨g', cap, cur, q1, q2, q3, q4, q5, q6, q7⟩
  · cases h2
  · injection q1 with q1 _ q1'
    injection q1 with q1
    injection q1 with q1
    subst q1 q1'
    refine ⟨g, c, rfl, by rw [hc']; simp, ⟨by simp, .inr ⟨g, c, cur, rfl, q2, q3, by omega, q5, q6, ?_⟩⟩, q4⟩
    have := congrArg (List.take l.length) q7
    rw [List.take_take, List.take_left] at this
    rw [Nat.mul_one] at this ⊢
    rw [Nat.min_eq_left (by omega)] at this
    exact this
end Go.Proofs.YtdkomhmciihkiaaGreat
/-! PrsA -/
namespace Go.Proofs.YtdkomhmciihkiaaGreat
open Go.RowKit
set_option linter.unusedVariables false
set_option linter.unusedSimpArgs false
set_option maxRecDepth 100000

theorem RdU.nth {w : World} {g n : Nat} {p : List Nat} {c : Nat} (h : PtNew w (.slice (some ⟨g, 0, none⟩) n c) p) (j : Nat) (hj : j < p.length) : w.cell? ⟨g, j, none⟩ = some (.int .u64 (p[j] : Nat)) := by
  obtain ⟨A, c', e, hx⟩ := h.rd.slice
  obtain ⟨b, o, rfl, hc⟩ := hx (by rw [pti_length9]; omega)
  simp only [Value.slice.injEq, Option.some.injEq, Addr.mk.injEq] at e
  obtain ⟨⟨rfl, rfl, _⟩, _⟩ := e
  have := hc j (by rw [pti_length9]; exact hj)
  simp only [pti, List.getElem_map, Nat.zero_add] at this
  exact this
theorem gl_take (l : List Nat) (j : Nat) (hj : j < l.length) : (l.take (j + 1)).foldl max 0 = max ((l.take j).foldl max 0) l[j] := by
  rw [← List.take_append_getElem hj, List.foldl_append]
  rfl
/-- the box of a node, once it has been asked for -/
def BoxR (w : World) (k : Nat) (p : List Nat) (m : Nat) (X : Nat) : Prop := ∃ g h, w.heap[X]? = some (.cells #[.slice (some ⟨g, 0, none⟩) k k, .slice (some ⟨h, 0, none⟩) k k] 274 (0, 0)) ∧ PtNew w (.slice (some ⟨g, 0, none⟩) k k) p ∧ PtNew w (.slice (some ⟨h, 0, none⟩) k k) (p.map fun c => c + (2 ^ m - 1))
theorem BoxR.below {w w' : World} {k : Nat} {p : List Nat} {m X : Nat} (h : BoxR w k p m X) (hb : Below w.heap.size w w') : BoxR w' k p m X :=
  let ⟨g, h1, h2, h3, h4⟩ := h
  ⟨g, h1, (hb.block _ (lt_of_block h2)).trans h2, h3.below hb, h4.below hb⟩
theorem max_val {f a b : Nat} (h : b ≤ a) (ha : a < 2 ^ 64) : Value.int .u64 (max (f : Int) (IntKind.u64.wrap ((a : Int) - (b : Int)))) = .int .u64 ((max f (a - b) : Nat) : Int) := by
  congr 1
  rw [IntKind.wrap_u64]
  rcases Nat.le_total f (a - b) with h1 | h1
  · rw [Nat.max_eq_right h1, Int.max_eq_right (by omega)]; omega
  · rw [Nat.max_eq_left h1, Int.max_eq_left (by omega)]
set_option maxHeartbeats 4000000 in
theorem gap_any (w : World) (k ba bb : Nat) (la lb : List En) (hA : Nd w k ba la) (hB : Nd w k bb lb) (k1 : 1 ≤ k) (k16 : k ≤ 16) :
    Calls Tryz.prog 119 #[.pointer (some ⟨ba, 0, none⟩), .pointer (some ⟨bb, 0, none⟩)] w fun e w' => e = .returned (.int .u64 (gapL la lb : Nat)) ∧ Below w.heap.size w w' := by
  obtain ⟨va, kpa, hha⟩ := hA.hd
  obtain ⟨vb, kpb, hhb⟩ := hB.hd
  obtain ⟨pa1, pa2, pa3⟩ := hA.pre_ok
  obtain ⟨pb1, pb2, pb3⟩ := hB.pre_ok
  obtain ⟨ua, ca, hua⟩ := hha.c1
  obtain ⟨ub, cb, hub⟩ := hhb.c1
  have HPA := Lib.hid (fun W (h : Below w.heap.size w W) => npref_any W ba (preL la) _ (Below.keeps h _ _ ca) (hua.below h) (by rw [pa1]; exact k1) (by rw [pa1]; exact k16))
  have HPB := Lib.hid (fun W (h : Below w.heap.size w W) => npref_any W bb (preL lb) _ (Below.keeps h _ _ cb) (hub.below h) (by rw [pb1]; exact k1) (by rw [pb1]; exact k16))
  have HLA := Lib.hid (fun W (h : Below w.heap.size w W) => nlev_any W ba _ (Below.keeps h _ _ hha.c0))
  have HLB := Lib.hid (fun W (h : Below w.heap.size w W) => nlev_any W bb _ (Below.keeps h _ _ hhb.c0))
  have HCA := Lib.hid (fun W v (hv : RdU W v (pti (preL la))) => boxCell_any W (preL la) (lev la) v hv (by rw [pa1]; exact k1) (by rw [pa1]; exact k16) pa2 (lev_le la))
  have HCB := Lib.hid (fun W v (hv : RdU W v (pti (preL lb))) => boxCell_any W (preL lb) (lev lb) v hv (by rw [pb1]; exact k1) (by rw [pb1]; exact k16) pb2 (lev_le lb))
  have hgap : gapL la lb = (glL (lev la) (lev lb) (preL la) (preL lb)).foldl max 0 := rfl
  have HOK := Lib.hid (And.intro pa1 (And.intro pb1 (And.intro pa2 pb2)))
  have HCT := Lib.hid (And.intro pa3 pb3)
  have HLL := Lib.hid (And.intro (lev_le la) (lev_le lb))
  have HK := Lib.hid k16
  rw [hgap]
  clear hA hB hha hhb pa1 pa2 pa3 pb1 pb2 pb3 ca cb hua hub k1 k16 hgap
  generalize preL la = pa at *
  generalize preL lb = pb at *
  generalize lev la = ma at *
  generalize lev lb = mb at *
  go_enter Tryz.func119, Tryz.ntmps119
  go_wp2_with fail
  refine (HPA.out _ (Below.refl _ _)).mono ?_
  rintro e w1 ⟨u1, rfl, hu1, hb1⟩
  have HB1 := Lib.hid hb1
  have HU1 := Lib.hid hu1
  obtain ⟨A1, c1, rfl, _⟩ := RdU.point hu1.rd
  clear hu1 hb1
  go_wp2_with fail
  refine (HLA.out _ HB1.out).mono ?_
  rintro e w2 ⟨rfl, hw⟩
  obtain rfl := hw.symm
  clear hw
  go_wp2_with fail
  refine (HCA.out w1 _ HU1.out.rd).mono ?_
  rintro e w2 ⟨g1, h1, rfl, hg1, hh1, hb2⟩
  have HB2 := Lib.hid (HB1.out.trans (hb2.mono HB1.out.size))
  rw [HCT.out.1] at hg1
  unfold hiL at hh1
  rw [HCT.out.1] at hh1
  rw [HOK.out.1] at hg1 hh1 ⊢
  have HX := Lib.hid (show BoxR (w2.alloc (.cells #[.slice (some ⟨g1, 0, none⟩) k k, .slice (some ⟨h1, 0, none⟩) k k] 274)) k pa ma w2.heap.size from ⟨g1, h1, alloc_blk _ _, hg1.below (by repeat (first | exact Below.refl _ _ | (refine Below.drew ?_) | (refine below_drewN' ?_ _) | (refine below_alloc' ?_ _) | (refine Below.setCell ?_ (by first | exact Nat.le_refl _ | (simp; done) | (simp; omega)) _))), hh1.below (by repeat (first | exact Below.refl _ _ | (refine Below.drew ?_) | (refine below_drewN' ?_ _) | (refine below_alloc' ?_ _) | (refine Below.setCell ?_ (by first | exact Nat.le_refl _ | (simp; done) | (simp; omega)) _)))⟩)
  clear hg1 hh1 hb2
  go_wp2_with fail
  refine (HPB.out _ (below_alloc' HB2.out _)).mono ?_
  rintro e w3 ⟨u3, rfl, hu3, hb3⟩
  have HB3 := Lib.hid ((below_alloc' HB2.out _).trans (hb3.mono (below_alloc' HB2.out _).size))
  have HX3 := Lib.hid (HX.out.below hb3)
  have HU3 := Lib.hid hu3
  obtain ⟨A3, c3, rfl, _⟩ := RdU.point hu3.rd
  clear hu3 hb3
  go_wp2_with fail
  refine (HLB.out _ HB3.out).mono ?_
  rintro e w4 ⟨rfl, hw⟩
  obtain rfl := hw.symm
  clear hw
  go_wp2_with fail
  refine (HCB.out w3 _ HU3.out.rd).mono ?_
  rintro e w4 ⟨g2, h2, rfl, hg2, hh2, hb4⟩
  have HB4 := Lib.hid (HB3.out.trans (hb4.mono HB3.out.size))
  have HX4 := Lib.hid (HX3.out.below hb4)
  rw [HCT.out.2] at hg2
  unfold hiL at hh2
  rw [HCT.out.2] at hh2
  rw [HOK.out.2.1] at hg2 hh2 ⊢
  have HB5 := Lib.hid (show Below w.heap.size w (w4.alloc (.cells #[.slice (some ⟨g2, 0, none⟩) k k, .slice (some ⟨h2, 0, none⟩) k k] 274)) from below_alloc' HB4.out _)
  have HX5 := Lib.hid (show BoxR (w4.alloc (.cells #[.slice (some ⟨g2, 0, none⟩) k k, .slice (some ⟨h2, 0, none⟩) k k] 274)) k pa ma w2.heap.size from HX4.out.below (by repeat (first | exact Below.refl _ _ | (refine Below.drew ?_) | (refine below_drewN' ?_ _) | (refine below_alloc' ?_ _) | (refine Below.setCell ?_ (by first | exact Nat.le_refl _ | (simp; done) | (simp; omega)) _))))
  have HY5 := Lib.hid (show BoxR (w4.alloc (.cells #[.slice (some ⟨g2, 0, none⟩) k k, .slice (some ⟨h2, 0, none⟩) k k] 274)) k pb mb w4.heap.size from ⟨g2, h2, alloc_blk _ _, hg2.below (by repeat (first | exact Below.refl _ _ | (refine Below.drew ?_) | (refine below_drewN' ?_ _) | (refine below_alloc' ?_ _) | (refine Below.setCell ?_ (by first | exact Nat.le_refl _ | (simp; done) | (simp; omega)) _))), hh2.below (by repeat (first | exact Below.refl _ _ | (refine Below.drew ?_) | (refine below_drewN' ?_ _) | (refine below_alloc' ?_ _) | (refine Below.setCell ?_ (by first | exact Nat.le_refl _ | (simp; done) | (simp; omega)) _)))⟩)
  obtain ⟨gx, hx, x1, x2, x3⟩ := HX4.out
  obtain ⟨X, hXe⟩ : ∃ x, w2.heap.size = x := ⟨_, rfl⟩
  rw [hXe] at x1 HX5 ⊢
  have xc : w4.cell? ⟨X, 0, none⟩ = some (.slice (some ⟨gx, 0, none⟩) k k) := by simp [World.cell?, x1]
  have xl := lt_of_block x1
  have HGL := Lib.hid (show (glL ma mb pa pb).length = k by unfold glL; rw [List.length_zipWith, HOK.out.1, HOK.out.2.1]; omega)
  clear hg2 hh2 hb4 x1 x2 x3 hXe
  go_wp2_with fail
  obtain ⟨Y, hYe⟩ : ∃ x, w4.heap.size = x := ⟨_, rfl⟩
  rw [hYe] at HY5 ⊢
  go_loopw [9, 10, 30] (fun fv _ iv wr => ∃ j : Nat, j ≤ k ∧ iv = .int .i64 (j : Nat) ∧ fv = .int .u64 (((glL ma mb pa pb).take j).foldl max 0 : Nat) ∧ BoxR wr k pa ma X ∧ BoxR wr k pb mb Y ∧ Below w.heap.size w wr) (fun _ _ iv _ => k - (intOf iv).toNat)
  case atStart => exact ⟨0, Nat.zero_le _, rfl, rfl, HX5.out.below (by repeat (first | exact Below.refl _ _ | (refine Below.drew ?_) | (refine below_drewN' ?_ _) | (refine below_alloc' ?_ _) | (refine Below.setCell ?_ (by first | exact Nat.le_refl _ | (simp; done) | (simp; omega)) _))), HY5.out.below (by repeat (first | exact Below.refl _ _ | (refine Below.drew ?_) | (refine below_drewN' ?_ _) | (refine below_alloc' ?_ _) | (refine Below.setCell ?_ (by first | exact Nat.le_refl _ | (simp; done) | (simp; omega)) _))), below_trans HB5.out (by repeat (first | exact Below.refl _ _ | (refine Below.drew ?_) | (refine below_drewN' ?_ _) | (refine below_alloc' ?_ _) | (refine Below.setCell ?_ (by first | exact Nat.le_refl _ | (simp; done) | (simp; omega)) _)))⟩
  case round =>
    obtain ⟨j, hj, rfl, rfl, hX, hY, hb⟩ := hrel
    have HI := Lib.hid (And.intro hj (And.intro hX (And.intro hY hb)))
    by_cases hlt : j < k
    · have h3 : (j : Int) < (k : Int) := by omega
      have h5 : (0 : Int) ≤ (j : Int) := by omega
      have HW := Lib.hid (show wrap64 ((j : Int) + 1) = ((j + 1 : Nat) : Int) by have := HK.out; unfold wrap64; omega)
      have ja : j < pa.length := by rw [HOK.out.1]; exact hlt
      have jb : j < pb.length := by rw [HOK.out.2.1]; exact hlt
      have HTK := Lib.hid (show ((glL ma mb pa pb).take (j + 1)).foldl max 0 = max (((glL ma mb pa pb).take j).foldl max 0) (cg pa[j] (pa[j] + (2 ^ ma - 1)) pb[j] (pb[j] + (2 ^ mb - 1))) by
        rw [gl_take _ _ (by rw [HGL.out]; exact hlt)]
        congr 1
        unfold glL
        rw [List.getElem_zipWith])
      obtain ⟨gx, hx, x1, x2, x3⟩ := hX
      obtain ⟨gy, hy, y1, y2, y3⟩ := hY
      have a0 := RdU.nth x2 j ja
      have a1 := RdU.nth x3 j (by rw [List.length_map]; exact ja)
      have b0 := RdU.nth y2 j jb
      have b1 := RdU.nth y3 j (by rw [List.length_map]; exact jb)
      rw [List.getElem_map] at a1 b1
      have c0 : wr.cell? ⟨X, 0, none⟩ = some (.slice (some ⟨gx, 0, none⟩) k k) := by simp [World.cell?, x1]
      have c1 : wr.cell? ⟨X, 1, none⟩ = some (.slice (some ⟨hx, 0, none⟩) k k) := by simp [World.cell?, x1]
      have d0 : wr.cell? ⟨Y, 0, none⟩ = some (.slice (some ⟨gy, 0, none⟩) k k) := by simp [World.cell?, y1]
      have d1 : wr.cell? ⟨Y, 1, none⟩ = some (.slice (some ⟨hy, 0, none⟩) k k) := by simp [World.cell?, y1]
      have l1 := lt_of_block x1
      have l2 := lt_of_block y1
      have l3 := World.block_lt_of_cell? wr _ a0
      have l4 := World.block_lt_of_cell? wr _ a1
      have l5 := World.block_lt_of_cell? wr _ b0
      have l6 := World.block_lt_of_cell? wr _ b1
      have ra : pa[j] < 2 ^ 64 ∧ pb[j] < 2 ^ 64 := ⟨HOK.out.2.2.1 _ (List.getElem_mem ja), HOK.out.2.2.2 _ (List.getElem_mem jb)⟩
      generalize pa[j] = xl0 at *
      generalize pb[j] = yl0 at *
      generalize xl0 + (2 ^ ma - 1) = xh0 at *
      generalize yl0 + (2 ^ mb - 1) = yh0 at *
      generalize ((glL ma mb pa pb).take j).foldl max 0 = f0 at *
      have HRA := Lib.hid ra
      clear hb x1 x2 x3 y1 y2 y3 ja jb ra hj
      by_cases c1' : xh0 < yl0
      · have i1 : (xh0 : Int) < (yl0 : Int) := by omega
        have HCG := Lib.hid (show cg xl0 xh0 yl0 yh0 = yl0 - xh0 by unfold cg; rw [if_pos c1'])
        go_wp2_with fail
        go_quiet (fail)
        go_wp2_with fail
        go_quiet (fail)
        go_wp2_with fail
        go_roundw
        case rel => exact ⟨j + 1, by have := hlt; omega, (by first | rw [HW.out] | rfl | simp), by rw [HTK.out, HCG.out]; exact max_val (by have := HRA.out; omega) (by have := HRA.out; omega), HI.out.2.1.below (by repeat (first | exact Below.refl _ _ | (refine Below.drew ?_) | (refine below_drewN' ?_ _) | (refine below_alloc' ?_ _) | (refine Below.setCell ?_ (by first | exact Nat.le_refl _ | (simp; done) | (simp; omega)) _))), HI.out.2.2.1.below (by repeat (first | exact Below.refl _ _ | (refine Below.drew ?_) | (refine below_drewN' ?_ _) | (refine below_alloc' ?_ _) | (refine Below.setCell ?_ (by first | exact Nat.le_refl _ | (simp; done) | (simp; omega)) _))), below_trans HI.out.2.2.2 (by repeat (first | exact Below.refl _ _ | (refine Below.drew ?_) | (refine below_drewN' ?_ _) | (refine below_alloc' ?_ _) | (refine Below.setCell ?_ (by first | exact Nat.le_refl _ | (simp; done) | (simp; omega)) _)))⟩
        case measure => (first | (rw [intOf_of' HW.out, intOf_of' rfl]; omega) | (simp [intOf]; omega) | (simp [intOf] <;> omega))
      · have i1 : ¬ (xh0 : Int) < (yl0 : Int) := by omega
        by_cases c2' : yh0 < xl0
        · have i2 : (yh0 : Int) < (xl0 : Int) := by omega
          have HCG := Lib.hid (show cg xl0 xh0 yl0 yh0 = xl0 - yh0 by unfold cg; rw [if_neg c1', if_pos c2'])
          go_wp2_with fail
          go_quiet (fail)
          go_wp2_with fail
          go_quiet (fail)
          go_wp2_with fail
          go_quiet (fail)
          go_wp2_with fail
          go_roundw
          case rel => exact ⟨j + 1, by have := hlt; omega, (by first | rw [HW.out] | rfl | simp), by rw [HTK.out, HCG.out]; exact max_val (by have := HRA.out; omega) (by have := HRA.out; omega), HI.out.2.1.below (by repeat (first | exact Below.refl _ _ | (refine Below.drew ?_) | (refine below_drewN' ?_ _) | (refine below_alloc' ?_ _) | (refine Below.setCell ?_ (by first | exact Nat.le_refl _ | (simp; done) | (simp; omega)) _))), HI.out.2.2.1.below (by repeat (first | exact Below.refl _ _ | (refine Below.drew ?_) | (refine below_drewN' ?_ _) | (refine below_alloc' ?_ _) | (refine Below.setCell ?_ (by first | exact Nat.le_refl _ | (simp; done) | (simp; omega)) _))), below_trans HI.out.2.2.2 (by repeat (first | exact Below.refl _ _ | (refine Below.drew ?_) | (refine below_drewN' ?_ _) | (refine below_alloc' ?_ _) | (refine Below.setCell ?_ (by first | exact Nat.le_refl _ | (simp; done) | (simp; omega)) _)))⟩
          case measure => (first | (rw [intOf_of' HW.out, intOf_of' rfl]; omega) | (simp [intOf]; omega) | (simp [intOf] <;> omega))
        · have i2 : ¬ (yh0 : Int) < (xl0 : Int) := by omega
          have HCG := Lib.hid (show cg xl0 xh0 yl0 yh0 = 0 by unfold cg; rw [if_neg c1', if_neg c2'])
          go_wp2_with fail
          go_quiet (fail)
          go_wp2_with fail
          go_quiet (fail)
          go_wp2_with fail
          go_roundw
          case rel => exact ⟨j + 1, by have := hlt; omega, (by first | rw [HW.out] | rfl | simp), by rw [HTK.out, HCG.out, Nat.max_zero], HI.out.2.1.below (by repeat (first | exact Below.refl _ _ | (refine Below.drew ?_) | (refine below_drewN' ?_ _) | (refine below_alloc' ?_ _) | (refine Below.setCell ?_ (by first | exact Nat.le_refl _ | (simp; done) | (simp; omega)) _))), HI.out.2.2.1.below (by repeat (first | exact Below.refl _ _ | (refine Below.drew ?_) | (refine below_drewN' ?_ _) | (refine below_alloc' ?_ _) | (refine Below.setCell ?_ (by first | exact Nat.le_refl _ | (simp; done) | (simp; omega)) _))), below_trans HI.out.2.2.2 (by repeat (first | exact Below.refl _ _ | (refine Below.drew ?_) | (refine below_drewN' ?_ _) | (refine below_alloc' ?_ _) | (refine Below.setCell ?_ (by first | exact Nat.le_refl _ | (simp; done) | (simp; omega)) _)))⟩
          case measure => (first | (rw [intOf_of' HW.out, intOf_of' rfl]; omega) | (simp [intOf]; omega) | (simp [intOf] <;> omega))
    · have h3 : ¬ (j : Int) < (k : Int) := by omega
      obtain rfl : j = k := by omega
      have e : (glL ma mb pa pb).take j = glL ma mb pa pb := List.take_of_length_le (by rw [HGL.out]; exact Nat.le_refl _)
      rw [e]
      clear hX hY hb
      go_wp2_with fail
      go_ret
      exact ⟨rfl, HI.out.2.2.2⟩
end Go.Proofs.YtdkomhmciihkiaaGreat
/-! WlkP -/
namespace Go.Proofs.YtdkomhmciihkiaaGreat
open Go.RowKit
set_option linter.unusedVariables false

theorem fromI_zero (l : List (Nat × Nat)) : fromI l 0 = l[0]? := by
  unfold fromI
  cases l with
  | nil => rfl
  | cons x l => simp
theorem fromI_skip {x : Nat × Nat} {l : List (Nat × Nat)} {a : Int} (h : (x.1 : Int) < a) : fromI (x :: l) a = fromI l a := by
  unfold fromI
  rw [List.find?_cons_of_neg]
  simp; omega
theorem fromI_hit {x : Nat × Nat} {l : List (Nat × Nat)} {a : Int} (h : a ≤ (x.1 : Int)) : fromI (x :: l) a = some x := by
  unfold fromI
  rw [List.find?_cons_of_pos]
  simpa using h
theorem fromI_next {l : List (Nat × Nat)} (h : Od.Asc ka l) (j : Nat) (hj : j < l.length) : fromI l (((l[j].1 : Nat) : Int) + 1) = l[j + 1]? := by
  induction l generalizing j with
  | nil => simp at hj
  | cons x l ih =>
    cases j with
    | zero =>
      rw [List.getElem_cons_zero, fromI_skip (by omega)]
      cases l with
      | nil => rfl
      | cons y l =>
        have : x.1 < y.1 := h.head y (List.mem_cons_self ..)
        rw [fromI_hit (by omega)]
        rfl
    | succ j =>
      have hj' : j < l.length := by simpa using hj
      have : x.1 < l[j].1 := h.head _ (List.getElem_mem hj')
      rw [List.getElem_cons_succ, fromI_skip (by omega), ih h.tail j hj']
      rfl
/-- what From hands back: the address, the kid -/
def frA (o : Option (Nat × Nat)) : Value := match o with | some x => .int .i64 (x.1 : Nat) | none => .int .i64 0
def frK (o : Option (Nat × Nat)) : Value := match o with | some x => pv (some x.2) | none => .pointer none
theorem frA_some (x : Nat × Nat) : frA (some x) = .int .i64 (x.1 : Nat) := rfl
theorem frK_some (x : Nat × Nat) : frK (some x) = .pointer (some ⟨x.2, 0, none⟩) := rfl
theorem frA_none : frA none = .int .i64 0 := rfl
theorem frK_none : frK none = .pointer none := rfl
theorem nfromV_eq (o : Option (Nat × Nat)) : nfromV o = .tuple #[frA o, frK o] := by cases o <;> rfl
def frO (ks : List (Nat × Nat × List En)) (j : Nat) : Option (Nat × Nat) := (ks.map kb)[j]?
theorem frO_some {ks : List (Nat × Nat × List En)} {j : Nat} (h : j < ks.length) : frO ks j = some (ks[j].1, ks[j].2.1) := by
  unfold frO; rw [List.getElem?_map, List.getElem?_eq_getElem h]; rfl
theorem frO_none {ks : List (Nat × Nat × List En)} {j : Nat} (h : ¬ j < ks.length) : frO ks j = none := by
  unfold frO; rw [List.getElem?_map, List.getElem?_eq_none (by omega)]; rfl
/-- how far there is to go -/
def kmu (a k : Value) : Nat := match k with | .pointer none => 0 | _ => 65537 - (intOf a).toNat
theorem kmu_some (x b : Nat) : kmu (.int .i64 (x : Nat)) (.pointer (some ⟨b, 0, none⟩)) = 65537 - x := by
  show 65537 - (intOf (.int .i64 (x : Nat))).toNat = _
  rw [intOf_nat, Int.toNat_natCast]
/-- From, kid by kid -/
structure FromK (w : World) (b : Nat) (ks : List (Nat × Nat × List En)) : Prop where
  zero : ∀ w', Below w.heap.size w w' → Calls Tryz.prog 178 #[.pointer (some ⟨b, 0, none⟩), .int .i64 0] w' fun e w'' => e = .returned (.tuple #[frA (frO ks 0), frK (frO ks 0)]) ∧ Below w'.heap.size w' w''
  next : ∀ j (hj : j < ks.length) w', Below w.heap.size w w' → Calls Tryz.prog 178 #[.pointer (some ⟨b, 0, none⟩), .int .i64 (((ks[j].1 : Nat) : Int) + 1)] w' fun e w'' => e = .returned (.tuple #[frA (frO ks (j + 1)), frK (frO ks (j + 1))]) ∧ Below w'.heap.size w' w''
  lt : ∀ j (hj : j < ks.length), ks[j].1 < 65536
  mu : ∀ j (hj : j < ks.length), kmu (frA (frO ks (j + 1))) (frK (frO ks (j + 1))) < kmu (frA (frO ks j)) (frK (frO ks j))
theorem FromK.of {w : World} {b s k : Nat} {ks : List (Nat × Nat × List En)} (c3 : w.cell? ⟨b, 3, none⟩ = some (.pointer (some ⟨s, 0, none⟩))) (hs : SlR w s k (ks.map kb)) : FromK w b ks := by
  have hasc := hs.rw'.asc
  have hlt : ∀ j (hj : j < ks.length), ks[j].1 < 65536 := fun j hj => by
    have h1 := hs.rw'.lt (kb ks[j]) (List.mem_map_of_mem (List.getElem_mem hj))
    have h2 := pow_le k hs.k16
    have : (kb ks[j]).1 = ks[j].1 := rfl
    omega
  refine ⟨fun w' hb => ?_, fun j hj w' hb => ?_, hlt, fun j hj => ?_⟩
  · have := nfrom_any w' b s k (ks.map kb) 0 (Below.keeps hb _ _ c3) (hs.below hb)
    rw [nfromV_eq, fromI_zero] at this
    exact this
  · have := nfrom_any w' b s k (ks.map kb) (((ks[j].1 : Nat) : Int) + 1) (Below.keeps hb _ _ c3) (hs.below hb)
    have h2 := fromI_next hasc j (by rw [List.length_map]; exact hj)
    rw [List.getElem_map] at h2
    rw [nfromV_eq, show ((ks[j].1 : Nat) : Int) = (((kb ks[j]).1 : Nat) : Int) from rfl, h2] at this
    exact this
  · rw [frO_some hj]
    by_cases h : j + 1 < ks.length
    · rw [frO_some h]
      have h1 : ((ks.map kb)[j]'(by simpa using hj)).1 < ((ks.map kb)[j + 1]'(by simpa using h)).1 := List.pairwise_iff_getElem.1 hasc j (j + 1) (by simpa using hj) (by simpa using h) (by omega)
      rw [List.getElem_map, List.getElem_map] at h1
      have h1 : ks[j].1 < ks[j + 1].1 := h1
      have h2 := hlt _ h
      show kmu (.int .i64 (ks[j + 1].1 : Nat)) (.pointer (some ⟨ks[j + 1].2.1, 0, none⟩)) < kmu (.int .i64 (ks[j].1 : Nat)) (.pointer (some ⟨ks[j].2.1, 0, none⟩))
      rw [kmu_some, kmu_some]
      omega
    · rw [frO_none h]
      have h2 := hlt _ hj
      show 0 < kmu (.int .i64 (ks[j].1 : Nat)) (.pointer (some ⟨ks[j].2.1, 0, none⟩))
      rw [kmu_some]
      omega
theorem FromK.bel {w w1 : World} {b : Nat} {ks : List (Nat × Nat × List En)} (h : FromK w b ks) (hb : Below w.heap.size w w1) : FromK w1 b ks :=
  ⟨fun w' hb2 => h.zero w' (hb.trans (hb2.mono hb.size)), fun j hj w' hb2 => h.next j hj w' (hb.trans (hb2.mono hb.size)), h.lt, h.mu⟩
end Go.Proofs.YtdkomhmciihkiaaGreat
