/-
  The walk of pack's reader: change.
-/
import Derived.Test.YtlmgabhdeeehmaaPkR2
import Derived.Test.YtlmgabhdeeehmaaPkW3
namespace Go.Proofs.Ytlmgabhdeeehmaa
open Go.RowKit
set_option linter.unusedVariables false
set_option linter.unusedSimpArgs false

theorem InvR.block {W w : World} {G : Nat} {rest : List Nat} {vl : Value} {last : Option (List Nat)} (h : InvR W G rest vl last w) : ∃ c, w.heap[G]? = some (.cells c 144 (0, 0)) := let ⟨_, h, _⟩ := h; ⟨_, h⟩
theorem InvR.block2 {W w : World} {G : Nat} {rest : List Nat} {vl : Value} {last : Option (List Nat)} (h : InvR W G rest vl last w) : w.heap[G]? = some (.cells #[h.choose, vl] 144 (0, 0)) := h.choose_spec.1
theorem InvR.setC {W w : World} {G C j : Nat} {rest : List Nat} {vl x : Value} {last : Option (List Nat)} {cc : Array Value} {t : TypeId} {fr : Nat × Nat} (h : InvR W G rest vl last w) (hC : w.heap[C]? = some (.cells cc t fr)) (ht1 : t ≠ 144) (ht2 : t ≠ 32) (hW : W.heap.size ≤ C) : InvR W G rest vl last (w.setCell ⟨C, j, none⟩ x) := by
  obtain ⟨vb, h1, h2, h3, h4, h5⟩ := h
  refine ⟨vb, (Below.heap_setCell _ _ _ _ (ne_type h1 hC (fun e => ht1 e.symm))).trans h1, h2, ?_, h4.setCell hW _, h5⟩
  cases last with
  | none => exact h3
  | some p => exact PtNew.keepBlock h3 fun b cur fr hb => Below.heap_setCell _ _ _ _ (ne_type hb hC (fun e => ht2 e.symm))
theorem PtNew.setC {w : World} {C j : Nat} {u x : Value} {p : List Nat} {cc : Array Value} {t : TypeId} {fr : Nat × Nat} (h : PtNew w u p) (hC : w.heap[C]? = some (.cells cc t fr)) (ht2 : t ≠ 32) : PtNew (w.setCell ⟨C, j, none⟩ x) u p :=
  h.keepBlock fun b cur fr hb => Below.heap_setCell _ _ _ _ (ne_type hb hC (fun e => ht2 e.symm))

theorem PtNew.over {w w' : World} {R : Nat} {u : Value} {p : List Nat} (h : PtNew w u p) (hR : w.heap[R]? = some Zcells) (hs : ∀ k, k ≠ R → w'.heap[k]? = w.heap[k]?) : PtNew w' u p :=
  h.keepBlock fun b cur fr hb => hs b (by unfold Zcells at hR; exact ne_type hb hR (by decide))
theorem InvR.over {W w w' : World} {G R : Nat} {rest : List Nat} {vl : Value} {last : Option (List Nat)} (h : InvR W G rest vl last w) (hR : w.heap[R]? = some Zcells) (hs : ∀ k, k ≠ R → w'.heap[k]? = w.heap[k]?) (hb : Below W.heap.size w w') : InvR W G rest vl last w' := by
  obtain ⟨vb, h1, h2, h3, h4, h5⟩ := h
  refine ⟨vb, (hs _ (by unfold Zcells at hR; exact ne_type h1 hR (by decide))).trans h1, h2, ?_, h4.trans hb, h5⟩
  cases last with
  | none => exact h3
  | some p => exact PtNew.over h3 hR hs
theorem KeepR.over {w w1 w' : World} {G R : Nat} (h : KeepR G w w1) (hs : ∀ k, k ≠ R → w'.heap[k]? = w1.heap[k]?) (hz : w1.heap.size ≤ w'.heap.size) (hw : w.heap.size ≤ R) : KeepR G w w' :=
  ⟨fun b o h1 h2 => (hs b (by have := lt_of_block h1; omega)).trans (h.1 b o h1 h2), Nat.le_trans h.2 hz⟩
theorem rdPoint_any (W w : World) (G : Nat) (p rest : List Nat) (vl : Value) (last : Option (List Nat)) (hi : InvR W G (Pk.lebP p (last.getD (Pk.zeros p.length)) ++ rest) vl last w) (h1 : 1 ≤ p.length) (h16 : p.length ≤ 16) (op : ∀ x ∈ p, x < 2 ^ 64) (hq : ∀ q, last = some q → q.length = p.length ∧ (∀ x ∈ q, x < 2 ^ 64) ∧ Zb.cmp q p < 0) (hr : rest.length ≤ 50000) :
    Calls Try.prog 147 #[.pointer (some ⟨G, 0, none⟩), .int .i64 (p.length : Nat)] w fun e w' => ∃ g, e = .returned (.slice (some ⟨g, 0, none⟩) p.length p.length) ∧ PtNew w' (.slice (some ⟨g, 0, none⟩) p.length p.length) p ∧ InvR W G rest vl last w' ∧ KeepR G w w' := by
  cases last with
  | none =>
    obtain rfl : vl = .slice none 0 0 := let ⟨_, _, _, h, _⟩ := hi; h
    exact rPoint_none W w G p.length p rest hi rfl h1 h16 op hr
  | some q => exact rPoint_last W w G p.length p q rest vl hi rfl (hq q rfl).1 h1 h16 op (hq q rfl).2.1 hr

/-- what change hands back -/
def ChgP (W w : World) (G : Nat) (c : Ch) (rest : List Nat) (e : Ending) (w' : World) : Prop :=
  ∃ v, e = .returned (AgC v c) ∧ PtNew w' v c.p ∧ InvR W G rest v (some c.p) w' ∧ KeepR G w w'

set_option maxRecDepth 8000 in
set_option maxHeartbeats 4000000 in
theorem rChange_tt (W w : World) (G : Nat) (p rest : List Nat) (old new : Nat) (vl : Value) (last : Option (List Nat)) (hi : InvR W G (Pk.one (last.getD (Pk.zeros p.length)) ⟨p, true, true, old, new⟩ ++ rest) vl last w)
    (HD : Hid (1 ≤ p.length ∧ p.length ≤ 16 ∧ (∀ x ∈ p, x < 2 ^ 64) ∧ (∀ q, last = some q → q.length = p.length ∧ (∀ x ∈ q, x < 2 ^ 64) ∧ Zb.cmp q p < 0) ∧ old < 2 ^ 64 ∧ new < 2 ^ 64 ∧ rest.length ≤ 40000)) (hne : old ≠ new) :
    Calls Try.prog 100 #[.pointer (some ⟨G, 0, none⟩), .int .i64 (p.length : Nat)] w fun e w' => ChgP W w G ⟨p, true, true, old, new⟩ rest e w' := by
  have HB := Lib.hid (show Pk.one (last.getD (Pk.zeros p.length)) ⟨p, true, true, old, new⟩ ++ rest = Pk.lebP p (last.getD (Pk.zeros p.length)) ++ (3 :: (Pk.leb old ++ (Pk.leb new ++ rest))) by simp [Pk.one, Pk.flag, Pk.vals])
  rw [HB.out] at hi
  have HI0 := Lib.hid hi
  clear hi
  go_enter Try.func100, Try.ntmps100
  go_wp2_with fail
  refine (rdPoint_any W _ G p (3 :: (Pk.leb old ++ (Pk.leb new ++ rest))) vl last (HI0.out.below (below_alloc' (Below.refl _ _) _)) HD.out.1 HD.out.2.1 HD.out.2.2.1 HD.out.2.2.2.1 (by have := HD.out.2.2.2.2.2.2; have := Pk.leb_length old; have := Pk.leb_length new; (try simp only [List.length_cons, List.length_append]); omega)).mono ?_
  rintro e w1 ⟨g, rfl, hp, hI, hk⟩
  obtain ⟨R, hRe⟩ : ∃ R, w.heap.size = R := ⟨_, rfl⟩
  have hGR : R ≠ G := by have := HI0.out.lt; omega
  have hR := hk.1 w.heap.size _ (heap_alloc_new w Zcells) (by omega)
  have hlR := lt_of_block hR
  have hk1 := (KeepR.below (G := G) (below_alloc' (Below.refl _ _) Zcells)).trans hk
  rw [hRe] at hR hlR
  simp only [hRe]
  obtain ⟨C, hCe⟩ : ∃ C, w1.heap.size = C := ⟨_, rfl⟩
  have hC := heap_alloc_new w1 (.cells #[.slice (some ⟨g, 0, none⟩) p.length p.length, .bool false, .bool false, .int .u64 0, .int .u64 0] 114 (0, 0))
  have hba : Below w1.heap.size w1 (w1.alloc (.cells #[.slice (some ⟨g, 0, none⟩) p.length p.length, .bool false, .bool false, .int .u64 0, .int .u64 0] 114 (0, 0))) := below_alloc' (Below.refl _ _) _
  have HN := Lib.hid (show C ≠ G ∧ R ≠ G ∧ R ≠ C ∧ W.heap.size ≤ C ∧ w.heap.size ≤ C ∧ W.heap.size ≤ R ∧ w.heap.size ≤ R by have := hI.lt; have := HI0.out.bel.size; have := HI0.out.lt; omega)
  have HR2 := Lib.hid ((Below.heap_alloc w1 (.cells #[.slice (some ⟨g, 0, none⟩) p.length p.length, .bool false, .bool false, .int .u64 0, .int .u64 0] 114 (0, 0)) _ (by omega)).trans hR)
  have HI2 := Lib.hid (hI.below hba)
  have HP2 := Lib.hid (hp.below hba)
  have HK2 := Lib.hid (hk1.trans (KeepR.below hba))
  rw [hCe] at hC
  have HC2 := Lib.hid hC
  clear hp hI hk hR hlR hk1 hC hba hGR
  go_wp2_with fail
  try simp only [hCe]
  generalize w1.alloc (.cells #[.slice (some ⟨g, 0, none⟩) p.length p.length, .bool false, .bool false, .int .u64 0, .int .u64 0] 114 (0, 0)) = w2 at *
  refine (one_any W _ G 3 (Pk.leb old ++ (Pk.leb new ++ rest)) vl last HI2.out (by have := HD.out.2.2.2.2.2.2; have := Pk.leb_length old; have := Pk.leb_length new; (try simp only [List.length_cons, List.length_append]); omega)).mono ?_
  rintro e w3 ⟨rfl, hI, hk⟩
  have HC3 := Lib.hid (hk.1 _ _ HC2.out HN.out.1)
  have HR3 := Lib.hid (hk.1 _ _ HR2.out HN.out.2.1)
  have HP3 := Lib.hid (PtNew.keepR HP2.out HI2.out.block2 (by decide) hk)
  have HK3 := Lib.hid (HK2.out.trans hk)
  have HI3 := Lib.hid hI
  clear hI hk HC2 HR2 HP2 HK2 HI2
  go_wp2_with fail
  refine (must_true 9 _).mono ?_
  rintro e we ⟨rfl, hw⟩
  obtain rfl := hw.symm
  have hC := HC3.out
  obtain ⟨k0, k1, k2, k3, k4⟩ := cells_of_five hC
  have kf : ∀ k, w3.frozen? ⟨C, k, none⟩ = false := fun k => by simp [World.frozen?, hC]
  have hlC := lt_of_block hC
  clear hC
  have b1 : bits .and .u8 3 1 = 1 := by decide
  have b2 : bits .and .u8 3 2 = 2 := by decide
  go_wp2_with fail
  clear k0 k1 k2 k3 k4 kf hlC
  have HC4 := Lib.hid (show (World.setCell (w3) ⟨C, 1, none⟩ (.bool true)).heap[C]? = some (.cells #[.slice (some ⟨g, 0, none⟩) p.length p.length, .bool true, .bool false, .int .u64 0, .int .u64 0] 114 (0, 0)) from cells_setCell HC3.out)
  have HR4 := Lib.hid ((Below.heap_setCell (w3) ⟨C, 1, none⟩ (.bool true) _ HN.out.2.2.1).trans HR3.out)
  have HP4 := Lib.hid (HP3.out.setC (j := 1) (x := .bool true) HC3.out (by decide))
  have HI4 := Lib.hid (HI3.out.setC (j := 1) (x := .bool true) HC3.out (by decide) (by decide) HN.out.2.2.2.1)
  have HK4 := Lib.hid (HK3.out.setNew (g := C) (j := 1) (x := .bool true) HN.out.2.2.2.2.1)
  clear HC3 HR3 HP3 HK3 HI3
  have HC5 := Lib.hid (show (World.setCell ((World.setCell (w3) ⟨C, 1, none⟩ (.bool true))) ⟨C, 2, none⟩ (.bool true)).heap[C]? = some (.cells #[.slice (some ⟨g, 0, none⟩) p.length p.length, .bool true, .bool true, .int .u64 0, .int .u64 0] 114 (0, 0)) from cells_setCell HC4.out)
  have HR5 := Lib.hid ((Below.heap_setCell ((World.setCell (w3) ⟨C, 1, none⟩ (.bool true))) ⟨C, 2, none⟩ (.bool true) _ HN.out.2.2.1).trans HR4.out)
  have HP5 := Lib.hid (HP4.out.setC (j := 2) (x := .bool true) HC4.out (by decide))
  have HI5 := Lib.hid (HI4.out.setC (j := 2) (x := .bool true) HC4.out (by decide) (by decide) HN.out.2.2.2.1)
  have HK5 := Lib.hid (HK4.out.setNew (g := C) (j := 2) (x := .bool true) HN.out.2.2.2.2.1)
  clear HC4 HR4 HP4 HK4 HI4
  generalize (World.setCell ((World.setCell (w3) ⟨C, 1, none⟩ (.bool true))) ⟨C, 2, none⟩ (.bool true)) = w5 at *
  refine (rNumber_any W _ G old (Pk.leb new ++ rest) vl last HI5.out HD.out.2.2.2.2.1 (by have := HD.out.2.2.2.2.2.2; have := Pk.leb_length old; have := Pk.leb_length new; (try simp only [List.length_cons, List.length_append]); omega)).mono ?_
  rintro e w6 ⟨rfl, hI, hk⟩
  have HC6 := Lib.hid (hk.1 _ _ HC5.out HN.out.1)
  have HR6 := Lib.hid (hk.1 _ _ HR5.out HN.out.2.1)
  have HP6 := Lib.hid (PtNew.keepR HP5.out HI5.out.block2 (by decide) hk)
  have HK6 := Lib.hid (HK5.out.trans hk)
  have HI6 := Lib.hid hI
  clear hI hk HC5 HR5 HP5 HK5 HI5
  have hC := HC6.out
  obtain ⟨k0, k1, k2, k3, k4⟩ := cells_of_five hC
  have kf : ∀ k, w6.frozen? ⟨C, k, none⟩ = false := fun k => by simp [World.frozen?, hC]
  have hlC := lt_of_block hC
  clear hC
  go_wp2_with fail
  clear k0 k1 k2 k3 k4 kf hlC
  have HC7 := Lib.hid (show (World.setCell (w6) ⟨C, 3, none⟩ (.int .u64 (old : Nat))).heap[C]? = some (.cells #[.slice (some ⟨g, 0, none⟩) p.length p.length, .bool true, .bool true, .int .u64 (old : Nat), .int .u64 0] 114 (0, 0)) from cells_setCell HC6.out)
  have HR7 := Lib.hid ((Below.heap_setCell (w6) ⟨C, 3, none⟩ (.int .u64 (old : Nat)) _ HN.out.2.2.1).trans HR6.out)
  have HP7 := Lib.hid (HP6.out.setC (j := 3) (x := .int .u64 (old : Nat)) HC6.out (by decide))
  have HI7 := Lib.hid (HI6.out.setC (j := 3) (x := .int .u64 (old : Nat)) HC6.out (by decide) (by decide) HN.out.2.2.2.1)
  have HK7 := Lib.hid (HK6.out.setNew (g := C) (j := 3) (x := .int .u64 (old : Nat)) HN.out.2.2.2.2.1)
  clear HC6 HR6 HP6 HK6 HI6
  generalize (World.setCell (w6) ⟨C, 3, none⟩ (.int .u64 (old : Nat))) = w7 at *
  refine (rNumber_any W _ G new rest vl last HI7.out HD.out.2.2.2.2.2.1 (by have := HD.out.2.2.2.2.2.2; have := Pk.leb_length old; have := Pk.leb_length new; (try simp only [List.length_cons, List.length_append]); omega)).mono ?_
  rintro e w8 ⟨rfl, hI, hk⟩
  have HC8 := Lib.hid (hk.1 _ _ HC7.out HN.out.1)
  have HR8 := Lib.hid (hk.1 _ _ HR7.out HN.out.2.1)
  have HP8 := Lib.hid (PtNew.keepR HP7.out HI7.out.block2 (by decide) hk)
  have HK8 := Lib.hid (HK7.out.trans hk)
  have HI8 := Lib.hid hI
  clear hI hk HC7 HR7 HP7 HK7 HI7
  have hC := HC8.out
  obtain ⟨k0, k1, k2, k3, k4⟩ := cells_of_five hC
  have kf : ∀ k, w8.frozen? ⟨C, k, none⟩ = false := fun k => by simp [World.frozen?, hC]
  have hlC := lt_of_block hC
  clear hC
  go_wp2_with fail
  clear k0 k1 k2 k3 k4 kf hlC
  have HC9 := Lib.hid (show (World.setCell (w8) ⟨C, 4, none⟩ (.int .u64 (new : Nat))).heap[C]? = some (.cells #[.slice (some ⟨g, 0, none⟩) p.length p.length, .bool true, .bool true, .int .u64 (old : Nat), .int .u64 (new : Nat)] 114 (0, 0)) from cells_setCell HC8.out)
  have HR9 := Lib.hid ((Below.heap_setCell (w8) ⟨C, 4, none⟩ (.int .u64 (new : Nat)) _ HN.out.2.2.1).trans HR8.out)
  have HP9 := Lib.hid (HP8.out.setC (j := 4) (x := .int .u64 (new : Nat)) HC8.out (by decide))
  have HI9 := Lib.hid (HI8.out.setC (j := 4) (x := .int .u64 (new : Nat)) HC8.out (by decide) (by decide) HN.out.2.2.2.1)
  have HK9 := Lib.hid (HK8.out.setNew (g := C) (j := 4) (x := .int .u64 (new : Nat)) HN.out.2.2.2.2.1)
  clear HC8 HR8 HP8 HK8 HI8
  generalize (World.setCell (w8) ⟨C, 4, none⟩ (.int .u64 (new : Nat))) = w9 at *
  refine (rises_any W _ G p rest vl _ last HI9.out HP9.out HD.out.1 HD.out.2.1 HD.out.2.2.1 HD.out.2.2.2.1).mono ?_
  rintro e w10 ⟨rfl, hI, hk⟩
  have HC10 := Lib.hid (hk.1 _ _ HC9.out HN.out.1)
  have HR10 := Lib.hid (hk.1 _ _ HR9.out HN.out.2.1)
  have HP10 := Lib.hid (PtNew.keepR HP9.out HI9.out.block2 (by decide) hk)
  have HK10 := Lib.hid (HK9.out.trans hk)
  have HI10 := Lib.hid hI
  clear hI hk HC9 HR9 HP9 HK9 HI9
  have hC := HC10.out
  obtain ⟨k0, k1, k2, k3, k4⟩ := cells_of_five hC
  have kf : ∀ k, w10.frozen? ⟨C, k, none⟩ = false := fun k => by simp [World.frozen?, hC]
  have hlC := lt_of_block hC
  clear hC
  have hne2 : ((old : Int) != (new : Int)) = true := by simp; omega
  go_wp2_with fail
  refine (must_true 9 _).mono ?_
  rintro e we ⟨rfl, hw⟩
  obtain rfl := hw.symm
  have hR := HR10.out
  unfold Zcells at hR
  obtain ⟨r0, r1, r2, r3, r4⟩ := cells_of_five hR
  have rf : ∀ k, w10.frozen? ⟨R, k, none⟩ = false := fun k => by simp [World.frozen?, hR]
  have hlR := lt_of_block hR
  clear hR
  go_wp2_with fail
  obtain ⟨S1, S2, S3⟩ := store5 HR10.out (.slice (some ⟨g, 0, none⟩) p.length p.length) (.bool true) (.bool true) (.int .u64 (old : Nat)) (.int .u64 (new : Nat))
  refine bodyPost_ret (v := AgC (.slice (some ⟨g, 0, none⟩) p.length p.length) ⟨p, true, true, old, new⟩) (by simp [results, Try.results100, go_sem, AgC, r0, r1, r2, r3, r4, rf, hlR]) rfl ⟨_, rfl, ?_, ?_, ?_⟩
  · exact HP10.out.over HR10.out S2
  · exact HI10.out.over HR10.out S2 (S3 _ HN.out.2.2.2.2.2.1)
  · exact HK10.out.over S2 (S3 _ HN.out.2.2.2.2.2.2).size HN.out.2.2.2.2.2.2
set_option maxRecDepth 8000 in
set_option maxHeartbeats 4000000 in
theorem rChange_tf (W w : World) (G : Nat) (p rest : List Nat) (old new : Nat) (vl : Value) (last : Option (List Nat)) (hi : InvR W G (Pk.one (last.getD (Pk.zeros p.length)) ⟨p, true, false, old, 0⟩ ++ rest) vl last w)
    (HD : Hid (1 ≤ p.length ∧ p.length ≤ 16 ∧ (∀ x ∈ p, x < 2 ^ 64) ∧ (∀ q, last = some q → q.length = p.length ∧ (∀ x ∈ q, x < 2 ^ 64) ∧ Zb.cmp q p < 0) ∧ old < 2 ^ 64 ∧ new < 2 ^ 64 ∧ rest.length ≤ 40000)) :
    Calls Try.prog 100 #[.pointer (some ⟨G, 0, none⟩), .int .i64 (p.length : Nat)] w fun e w' => ChgP W w G ⟨p, true, false, old, 0⟩ rest e w' := by
  have HB := Lib.hid (show Pk.one (last.getD (Pk.zeros p.length)) ⟨p, true, false, old, 0⟩ ++ rest = Pk.lebP p (last.getD (Pk.zeros p.length)) ++ (1 :: (Pk.leb old ++ rest)) by simp [Pk.one, Pk.flag, Pk.vals])
  rw [HB.out] at hi
  have HI0 := Lib.hid hi
  clear hi
  go_enter Try.func100, Try.ntmps100
  go_wp2_with fail
  refine (rdPoint_any W _ G p (1 :: (Pk.leb old ++ rest)) vl last (HI0.out.below (below_alloc' (Below.refl _ _) _)) HD.out.1 HD.out.2.1 HD.out.2.2.1 HD.out.2.2.2.1 (by have := HD.out.2.2.2.2.2.2; have := Pk.leb_length old; have := Pk.leb_length new; (try simp only [List.length_cons, List.length_append]); omega)).mono ?_
  rintro e w1 ⟨g, rfl, hp, hI, hk⟩
  obtain ⟨R, hRe⟩ : ∃ R, w.heap.size = R := ⟨_, rfl⟩
  have hGR : R ≠ G := by have := HI0.out.lt; omega
  have hR := hk.1 w.heap.size _ (heap_alloc_new w Zcells) (by omega)
  have hlR := lt_of_block hR
  have hk1 := (KeepR.below (G := G) (below_alloc' (Below.refl _ _) Zcells)).trans hk
  rw [hRe] at hR hlR
  simp only [hRe]
  obtain ⟨C, hCe⟩ : ∃ C, w1.heap.size = C := ⟨_, rfl⟩
  have hC := heap_alloc_new w1 (.cells #[.slice (some ⟨g, 0, none⟩) p.length p.length, .bool false, .bool false, .int .u64 0, .int .u64 0] 114 (0, 0))
  have hba : Below w1.heap.size w1 (w1.alloc (.cells #[.slice (some ⟨g, 0, none⟩) p.length p.length, .bool false, .bool false, .int .u64 0, .int .u64 0] 114 (0, 0))) := below_alloc' (Below.refl _ _) _
  have HN := Lib.hid (show C ≠ G ∧ R ≠ G ∧ R ≠ C ∧ W.heap.size ≤ C ∧ w.heap.size ≤ C ∧ W.heap.size ≤ R ∧ w.heap.size ≤ R by have := hI.lt; have := HI0.out.bel.size; have := HI0.out.lt; omega)
  have HR2 := Lib.hid ((Below.heap_alloc w1 (.cells #[.slice (some ⟨g, 0, none⟩) p.length p.length, .bool false, .bool false, .int .u64 0, .int .u64 0] 114 (0, 0)) _ (by omega)).trans hR)
  have HI2 := Lib.hid (hI.below hba)
  have HP2 := Lib.hid (hp.below hba)
  have HK2 := Lib.hid (hk1.trans (KeepR.below hba))
  rw [hCe] at hC
  have HC2 := Lib.hid hC
  clear hp hI hk hR hlR hk1 hC hba hGR
  go_wp2_with fail
  try simp only [hCe]
  generalize w1.alloc (.cells #[.slice (some ⟨g, 0, none⟩) p.length p.length, .bool false, .bool false, .int .u64 0, .int .u64 0] 114 (0, 0)) = w2 at *
  refine (one_any W _ G 1 (Pk.leb old ++ rest) vl last HI2.out (by have := HD.out.2.2.2.2.2.2; have := Pk.leb_length old; have := Pk.leb_length new; (try simp only [List.length_cons, List.length_append]); omega)).mono ?_
  rintro e w3 ⟨rfl, hI, hk⟩
  have HC3 := Lib.hid (hk.1 _ _ HC2.out HN.out.1)
  have HR3 := Lib.hid (hk.1 _ _ HR2.out HN.out.2.1)
  have HP3 := Lib.hid (PtNew.keepR HP2.out HI2.out.block2 (by decide) hk)
  have HK3 := Lib.hid (HK2.out.trans hk)
  have HI3 := Lib.hid hI
  clear hI hk HC2 HR2 HP2 HK2 HI2
  go_wp2_with fail
  refine (must_true 9 _).mono ?_
  rintro e we ⟨rfl, hw⟩
  obtain rfl := hw.symm
  have hC := HC3.out
  obtain ⟨k0, k1, k2, k3, k4⟩ := cells_of_five hC
  have kf : ∀ k, w3.frozen? ⟨C, k, none⟩ = false := fun k => by simp [World.frozen?, hC]
  have hlC := lt_of_block hC
  clear hC
  have b1 : bits .and .u8 1 1 = 1 := by decide
  have b2 : bits .and .u8 1 2 = 0 := by decide
  go_wp2_with fail
  clear k0 k1 k2 k3 k4 kf hlC
  have HC4 := Lib.hid (show (World.setCell (w3) ⟨C, 1, none⟩ (.bool true)).heap[C]? = some (.cells #[.slice (some ⟨g, 0, none⟩) p.length p.length, .bool true, .bool false, .int .u64 0, .int .u64 0] 114 (0, 0)) from cells_setCell HC3.out)
  have HR4 := Lib.hid ((Below.heap_setCell (w3) ⟨C, 1, none⟩ (.bool true) _ HN.out.2.2.1).trans HR3.out)
  have HP4 := Lib.hid (HP3.out.setC (j := 1) (x := .bool true) HC3.out (by decide))
  have HI4 := Lib.hid (HI3.out.setC (j := 1) (x := .bool true) HC3.out (by decide) (by decide) HN.out.2.2.2.1)
  have HK4 := Lib.hid (HK3.out.setNew (g := C) (j := 1) (x := .bool true) HN.out.2.2.2.2.1)
  clear HC3 HR3 HP3 HK3 HI3
  have HC5 := Lib.hid (show (World.setCell ((World.setCell (w3) ⟨C, 1, none⟩ (.bool true))) ⟨C, 2, none⟩ (.bool false)).heap[C]? = some (.cells #[.slice (some ⟨g, 0, none⟩) p.length p.length, .bool true, .bool false, .int .u64 0, .int .u64 0] 114 (0, 0)) from cells_setCell HC4.out)
  have HR5 := Lib.hid ((Below.heap_setCell ((World.setCell (w3) ⟨C, 1, none⟩ (.bool true))) ⟨C, 2, none⟩ (.bool false) _ HN.out.2.2.1).trans HR4.out)
  have HP5 := Lib.hid (HP4.out.setC (j := 2) (x := .bool false) HC4.out (by decide))
  have HI5 := Lib.hid (HI4.out.setC (j := 2) (x := .bool false) HC4.out (by decide) (by decide) HN.out.2.2.2.1)
  have HK5 := Lib.hid (HK4.out.setNew (g := C) (j := 2) (x := .bool false) HN.out.2.2.2.2.1)
  clear HC4 HR4 HP4 HK4 HI4
  generalize (World.setCell ((World.setCell (w3) ⟨C, 1, none⟩ (.bool true))) ⟨C, 2, none⟩ (.bool false)) = w5 at *
  refine (rNumber_any W _ G old rest vl last HI5.out HD.out.2.2.2.2.1 (by have := HD.out.2.2.2.2.2.2; have := Pk.leb_length old; have := Pk.leb_length new; (try simp only [List.length_cons, List.length_append]); omega)).mono ?_
  rintro e w6 ⟨rfl, hI, hk⟩
  have HC6 := Lib.hid (hk.1 _ _ HC5.out HN.out.1)
  have HR6 := Lib.hid (hk.1 _ _ HR5.out HN.out.2.1)
  have HP6 := Lib.hid (PtNew.keepR HP5.out HI5.out.block2 (by decide) hk)
  have HK6 := Lib.hid (HK5.out.trans hk)
  have HI6 := Lib.hid hI
  clear hI hk HC5 HR5 HP5 HK5 HI5
  have hC := HC6.out
  obtain ⟨k0, k1, k2, k3, k4⟩ := cells_of_five hC
  have kf : ∀ k, w6.frozen? ⟨C, k, none⟩ = false := fun k => by simp [World.frozen?, hC]
  have hlC := lt_of_block hC
  clear hC
  go_wp2_with fail
  clear k0 k1 k2 k3 k4 kf hlC
  have HC7 := Lib.hid (show (World.setCell (w6) ⟨C, 3, none⟩ (.int .u64 (old : Nat))).heap[C]? = some (.cells #[.slice (some ⟨g, 0, none⟩) p.length p.length, .bool true, .bool false, .int .u64 (old : Nat), .int .u64 0] 114 (0, 0)) from cells_setCell HC6.out)
  have HR7 := Lib.hid ((Below.heap_setCell (w6) ⟨C, 3, none⟩ (.int .u64 (old : Nat)) _ HN.out.2.2.1).trans HR6.out)
  have HP7 := Lib.hid (HP6.out.setC (j := 3) (x := .int .u64 (old : Nat)) HC6.out (by decide))
  have HI7 := Lib.hid (HI6.out.setC (j := 3) (x := .int .u64 (old : Nat)) HC6.out (by decide) (by decide) HN.out.2.2.2.1)
  have HK7 := Lib.hid (HK6.out.setNew (g := C) (j := 3) (x := .int .u64 (old : Nat)) HN.out.2.2.2.2.1)
  clear HC6 HR6 HP6 HK6 HI6
  generalize (World.setCell (w6) ⟨C, 3, none⟩ (.int .u64 (old : Nat))) = w7 at *
  refine (rises_any W _ G p rest vl _ last HI7.out HP7.out HD.out.1 HD.out.2.1 HD.out.2.2.1 HD.out.2.2.2.1).mono ?_
  rintro e w8 ⟨rfl, hI, hk⟩
  have HC8 := Lib.hid (hk.1 _ _ HC7.out HN.out.1)
  have HR8 := Lib.hid (hk.1 _ _ HR7.out HN.out.2.1)
  have HP8 := Lib.hid (PtNew.keepR HP7.out HI7.out.block2 (by decide) hk)
  have HK8 := Lib.hid (HK7.out.trans hk)
  have HI8 := Lib.hid hI
  clear hI hk HC7 HR7 HP7 HK7 HI7
  have hC := HC8.out
  obtain ⟨k0, k1, k2, k3, k4⟩ := cells_of_five hC
  have kf : ∀ k, w8.frozen? ⟨C, k, none⟩ = false := fun k => by simp [World.frozen?, hC]
  have hlC := lt_of_block hC
  clear hC
  go_wp2_with fail
  refine (must_true 9 _).mono ?_
  rintro e we ⟨rfl, hw⟩
  obtain rfl := hw.symm
  have hR := HR8.out
  unfold Zcells at hR
  obtain ⟨r0, r1, r2, r3, r4⟩ := cells_of_five hR
  have rf : ∀ k, w8.frozen? ⟨R, k, none⟩ = false := fun k => by simp [World.frozen?, hR]
  have hlR := lt_of_block hR
  clear hR
  go_wp2_with fail
  obtain ⟨S1, S2, S3⟩ := store5 HR8.out (.slice (some ⟨g, 0, none⟩) p.length p.length) (.bool true) (.bool false) (.int .u64 (old : Nat)) (.int .u64 0)
  refine bodyPost_ret (v := AgC (.slice (some ⟨g, 0, none⟩) p.length p.length) ⟨p, true, false, old, 0⟩) (by simp [results, Try.results100, go_sem, AgC, r0, r1, r2, r3, r4, rf, hlR]) rfl ⟨_, rfl, ?_, ?_, ?_⟩
  · exact HP8.out.over HR8.out S2
  · exact HI8.out.over HR8.out S2 (S3 _ HN.out.2.2.2.2.2.1)
  · exact HK8.out.over S2 (S3 _ HN.out.2.2.2.2.2.2).size HN.out.2.2.2.2.2.2
set_option maxRecDepth 8000 in
set_option maxHeartbeats 4000000 in
theorem rChange_ft (W w : World) (G : Nat) (p rest : List Nat) (old new : Nat) (vl : Value) (last : Option (List Nat)) (hi : InvR W G (Pk.one (last.getD (Pk.zeros p.length)) ⟨p, false, true, 0, new⟩ ++ rest) vl last w)
    (HD : Hid (1 ≤ p.length ∧ p.length ≤ 16 ∧ (∀ x ∈ p, x < 2 ^ 64) ∧ (∀ q, last = some q → q.length = p.length ∧ (∀ x ∈ q, x < 2 ^ 64) ∧ Zb.cmp q p < 0) ∧ old < 2 ^ 64 ∧ new < 2 ^ 64 ∧ rest.length ≤ 40000)) :
    Calls Try.prog 100 #[.pointer (some ⟨G, 0, none⟩), .int .i64 (p.length : Nat)] w fun e w' => ChgP W w G ⟨p, false, true, 0, new⟩ rest e w' := by
  have HB := Lib.hid (show Pk.one (last.getD (Pk.zeros p.length)) ⟨p, false, true, 0, new⟩ ++ rest = Pk.lebP p (last.getD (Pk.zeros p.length)) ++ (2 :: (Pk.leb new ++ rest)) by simp [Pk.one, Pk.flag, Pk.vals])
  rw [HB.out] at hi
  have HI0 := Lib.hid hi
  clear hi
  go_enter Try.func100, Try.ntmps100
  go_wp2_with fail
  refine (rdPoint_any W _ G p (2 :: (Pk.leb new ++ rest)) vl last (HI0.out.below (below_alloc' (Below.refl _ _) _)) HD.out.1 HD.out.2.1 HD.out.2.2.1 HD.out.2.2.2.1 (by have := HD.out.2.2.2.2.2.2; have := Pk.leb_length old; have := Pk.leb_length new; (try simp only [List.length_cons, List.length_append]); omega)).mono ?_
  rintro e w1 ⟨g, rfl, hp, hI, hk⟩
  obtain ⟨R, hRe⟩ : ∃ R, w.heap.size = R := ⟨_, rfl⟩
  have hGR : R ≠ G := by have := HI0.out.lt; omega
  have hR := hk.1 w.heap.size _ (heap_alloc_new w Zcells) (by omega)
  have hlR := lt_of_block hR
  have hk1 := (KeepR.below (G := G) (below_alloc' (Below.refl _ _) Zcells)).trans hk
  rw [hRe] at hR hlR
  simp only [hRe]
  obtain ⟨C, hCe⟩ : ∃ C, w1.heap.size = C := ⟨_, rfl⟩
  have hC := heap_alloc_new w1 (.cells #[.slice (some ⟨g, 0, none⟩) p.length p.length, .bool false, .bool false, .int .u64 0, .int .u64 0] 114 (0, 0))
  have hba : Below w1.heap.size w1 (w1.alloc (.cells #[.slice (some ⟨g, 0, none⟩) p.length p.length, .bool false, .bool false, .int .u64 0, .int .u64 0] 114 (0, 0))) := below_alloc' (Below.refl _ _) _
  have HN := Lib.hid (show C ≠ G ∧ R ≠ G ∧ R ≠ C ∧ W.heap.size ≤ C ∧ w.heap.size ≤ C ∧ W.heap.size ≤ R ∧ w.heap.size ≤ R by have := hI.lt; have := HI0.out.bel.size; have := HI0.out.lt; omega)
  have HR2 := Lib.hid ((Below.heap_alloc w1 (.cells #[.slice (some ⟨g, 0, none⟩) p.length p.length, .bool false, .bool false, .int .u64 0, .int .u64 0] 114 (0, 0)) _ (by omega)).trans hR)
  have HI2 := Lib.hid (hI.below hba)
  have HP2 := Lib.hid (hp.below hba)
  have HK2 := Lib.hid (hk1.trans (KeepR.below hba))
  rw [hCe] at hC
  have HC2 := Lib.hid hC
  clear hp hI hk hR hlR hk1 hC hba hGR
  go_wp2_with fail
  try simp only [hCe]
  generalize w1.alloc (.cells #[.slice (some ⟨g, 0, none⟩) p.length p.length, .bool false, .bool false, .int .u64 0, .int .u64 0] 114 (0, 0)) = w2 at *
  refine (one_any W _ G 2 (Pk.leb new ++ rest) vl last HI2.out (by have := HD.out.2.2.2.2.2.2; have := Pk.leb_length old; have := Pk.leb_length new; (try simp only [List.length_cons, List.length_append]); omega)).mono ?_
  rintro e w3 ⟨rfl, hI, hk⟩
  have HC3 := Lib.hid (hk.1 _ _ HC2.out HN.out.1)
  have HR3 := Lib.hid (hk.1 _ _ HR2.out HN.out.2.1)
  have HP3 := Lib.hid (PtNew.keepR HP2.out HI2.out.block2 (by decide) hk)
  have HK3 := Lib.hid (HK2.out.trans hk)
  have HI3 := Lib.hid hI
  clear hI hk HC2 HR2 HP2 HK2 HI2
  go_wp2_with fail
  refine (must_true 9 _).mono ?_
  rintro e we ⟨rfl, hw⟩
  obtain rfl := hw.symm
  have hC := HC3.out
  obtain ⟨k0, k1, k2, k3, k4⟩ := cells_of_five hC
  have kf : ∀ k, w3.frozen? ⟨C, k, none⟩ = false := fun k => by simp [World.frozen?, hC]
  have hlC := lt_of_block hC
  clear hC
  have b1 : bits .and .u8 2 1 = 0 := by decide
  have b2 : bits .and .u8 2 2 = 2 := by decide
  go_wp2_with fail
  clear k0 k1 k2 k3 k4 kf hlC
  have HC4 := Lib.hid (show (World.setCell (w3) ⟨C, 1, none⟩ (.bool false)).heap[C]? = some (.cells #[.slice (some ⟨g, 0, none⟩) p.length p.length, .bool false, .bool false, .int .u64 0, .int .u64 0] 114 (0, 0)) from cells_setCell HC3.out)
  have HR4 := Lib.hid ((Below.heap_setCell (w3) ⟨C, 1, none⟩ (.bool false) _ HN.out.2.2.1).trans HR3.out)
  have HP4 := Lib.hid (HP3.out.setC (j := 1) (x := .bool false) HC3.out (by decide))
  have HI4 := Lib.hid (HI3.out.setC (j := 1) (x := .bool false) HC3.out (by decide) (by decide) HN.out.2.2.2.1)
  have HK4 := Lib.hid (HK3.out.setNew (g := C) (j := 1) (x := .bool false) HN.out.2.2.2.2.1)
  clear HC3 HR3 HP3 HK3 HI3
  have HC5 := Lib.hid (show (World.setCell ((World.setCell (w3) ⟨C, 1, none⟩ (.bool false))) ⟨C, 2, none⟩ (.bool true)).heap[C]? = some (.cells #[.slice (some ⟨g, 0, none⟩) p.length p.length, .bool false, .bool true, .int .u64 0, .int .u64 0] 114 (0, 0)) from cells_setCell HC4.out)
  have HR5 := Lib.hid ((Below.heap_setCell ((World.setCell (w3) ⟨C, 1, none⟩ (.bool false))) ⟨C, 2, none⟩ (.bool true) _ HN.out.2.2.1).trans HR4.out)
  have HP5 := Lib.hid (HP4.out.setC (j := 2) (x := .bool true) HC4.out (by decide))
  have HI5 := Lib.hid (HI4.out.setC (j := 2) (x := .bool true) HC4.out (by decide) (by decide) HN.out.2.2.2.1)
  have HK5 := Lib.hid (HK4.out.setNew (g := C) (j := 2) (x := .bool true) HN.out.2.2.2.2.1)
  clear HC4 HR4 HP4 HK4 HI4
  generalize (World.setCell ((World.setCell (w3) ⟨C, 1, none⟩ (.bool false))) ⟨C, 2, none⟩ (.bool true)) = w5 at *
  refine (rNumber_any W _ G new rest vl last HI5.out HD.out.2.2.2.2.2.1 (by have := HD.out.2.2.2.2.2.2; have := Pk.leb_length old; have := Pk.leb_length new; (try simp only [List.length_cons, List.length_append]); omega)).mono ?_
  rintro e w6 ⟨rfl, hI, hk⟩
  have HC6 := Lib.hid (hk.1 _ _ HC5.out HN.out.1)
  have HR6 := Lib.hid (hk.1 _ _ HR5.out HN.out.2.1)
  have HP6 := Lib.hid (PtNew.keepR HP5.out HI5.out.block2 (by decide) hk)
  have HK6 := Lib.hid (HK5.out.trans hk)
  have HI6 := Lib.hid hI
  clear hI hk HC5 HR5 HP5 HK5 HI5
  have hC := HC6.out
  obtain ⟨k0, k1, k2, k3, k4⟩ := cells_of_five hC
  have kf : ∀ k, w6.frozen? ⟨C, k, none⟩ = false := fun k => by simp [World.frozen?, hC]
  have hlC := lt_of_block hC
  clear hC
  go_wp2_with fail
  clear k0 k1 k2 k3 k4 kf hlC
  have HC7 := Lib.hid (show (World.setCell (w6) ⟨C, 4, none⟩ (.int .u64 (new : Nat))).heap[C]? = some (.cells #[.slice (some ⟨g, 0, none⟩) p.length p.length, .bool false, .bool true, .int .u64 0, .int .u64 (new : Nat)] 114 (0, 0)) from cells_setCell HC6.out)
  have HR7 := Lib.hid ((Below.heap_setCell (w6) ⟨C, 4, none⟩ (.int .u64 (new : Nat)) _ HN.out.2.2.1).trans HR6.out)
  have HP7 := Lib.hid (HP6.out.setC (j := 4) (x := .int .u64 (new : Nat)) HC6.out (by decide))
  have HI7 := Lib.hid (HI6.out.setC (j := 4) (x := .int .u64 (new : Nat)) HC6.out (by decide) (by decide) HN.out.2.2.2.1)
  have HK7 := Lib.hid (HK6.out.setNew (g := C) (j := 4) (x := .int .u64 (new : Nat)) HN.out.2.2.2.2.1)
  clear HC6 HR6 HP6 HK6 HI6
  generalize (World.setCell (w6) ⟨C, 4, none⟩ (.int .u64 (new : Nat))) = w7 at *
  refine (rises_any W _ G p rest vl _ last HI7.out HP7.out HD.out.1 HD.out.2.1 HD.out.2.2.1 HD.out.2.2.2.1).mono ?_
  rintro e w8 ⟨rfl, hI, hk⟩
  have HC8 := Lib.hid (hk.1 _ _ HC7.out HN.out.1)
  have HR8 := Lib.hid (hk.1 _ _ HR7.out HN.out.2.1)
  have HP8 := Lib.hid (PtNew.keepR HP7.out HI7.out.block2 (by decide) hk)
  have HK8 := Lib.hid (HK7.out.trans hk)
  have HI8 := Lib.hid hI
  clear hI hk HC7 HR7 HP7 HK7 HI7
  have hC := HC8.out
  obtain ⟨k0, k1, k2, k3, k4⟩ := cells_of_five hC
  have kf : ∀ k, w8.frozen? ⟨C, k, none⟩ = false := fun k => by simp [World.frozen?, hC]
  have hlC := lt_of_block hC
  clear hC
  go_wp2_with fail
  refine (must_true 9 _).mono ?_
  rintro e we ⟨rfl, hw⟩
  obtain rfl := hw.symm
  have hR := HR8.out
  unfold Zcells at hR
  obtain ⟨r0, r1, r2, r3, r4⟩ := cells_of_five hR
  have rf : ∀ k, w8.frozen? ⟨R, k, none⟩ = false := fun k => by simp [World.frozen?, hR]
  have hlR := lt_of_block hR
  clear hR
  go_wp2_with fail
  obtain ⟨S1, S2, S3⟩ := store5 HR8.out (.slice (some ⟨g, 0, none⟩) p.length p.length) (.bool false) (.bool true) (.int .u64 0) (.int .u64 (new : Nat))
  refine bodyPost_ret (v := AgC (.slice (some ⟨g, 0, none⟩) p.length p.length) ⟨p, false, true, 0, new⟩) (by simp [results, Try.results100, go_sem, AgC, r0, r1, r2, r3, r4, rf, hlR]) rfl ⟨_, rfl, ?_, ?_, ?_⟩
  · exact HP8.out.over HR8.out S2
  · exact HI8.out.over HR8.out S2 (S3 _ HN.out.2.2.2.2.2.1)
  · exact HK8.out.over S2 (S3 _ HN.out.2.2.2.2.2.2).size HN.out.2.2.2.2.2.2

theorem right_vals (c : Ch) (h : c.right = true) : (c.had = true ∧ c.has = true ∧ c.old ≠ c.new) ∨ (c.had = true ∧ c.has = false ∧ c.new = 0) ∨ (c.had = false ∧ c.has = true ∧ c.old = 0) := by
  obtain ⟨p, had, has, old, new⟩ := c
  unfold Ch.right rightBits at h
  cases had <;> cases has <;> simp_all
  omega
theorem rChange_any (W w : World) (G : Nat) (c : Ch) (rest : List Nat) (vl : Value) (last : Option (List Nat)) (hi : InvR W G (Pk.one (last.getD (Pk.zeros c.p.length)) c ++ rest) vl last w)
    (HD : Hid (1 ≤ c.p.length ∧ c.p.length ≤ 16 ∧ (∀ x ∈ c.p, x < 2 ^ 64) ∧ (∀ q, last = some q → q.length = c.p.length ∧ (∀ x ∈ q, x < 2 ^ 64) ∧ Zb.cmp q c.p < 0) ∧ c.old < 2 ^ 64 ∧ c.new < 2 ^ 64 ∧ rest.length ≤ 40000)) (hr : c.right = true) :
    Calls Try.prog 100 #[.pointer (some ⟨G, 0, none⟩), .int .i64 (c.p.length : Nat)] w fun e w' => ChgP W w G c rest e w' := by
  rcases right_vals c hr with ⟨h1, h2, h3⟩ | ⟨h1, h2, h3⟩ | ⟨h1, h2, h3⟩
  all_goals
    obtain ⟨p, had, has, old, new⟩ := c
    simp only at *
    subst h1 h2
  · exact rChange_tt W w G p rest old new vl last hi HD h3
  · subst h3; exact rChange_tf W w G p rest old 0 vl last hi HD
  · subst h3; exact rChange_ft W w G p rest 0 new vl last hi HD
end Go.Proofs.Ytlmgabhdeeehmaa
