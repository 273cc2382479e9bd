/-
  The walks of pack's writer: number, point, flags.
-/
import Derived.Test.YtlmgabhdeeehmaaPkB
namespace Go.Proofs.Ytlmgabhdeeehmaa
open Go.RowKit
set_option linter.unusedVariables false
set_option linter.unusedSimpArgs false

/-- a point of old memory, or one in a row of numbers -/
def PtAny (W w : World) (u : Value) (p : List Nat) : Prop := RdU W u (pti p) ∨ PtNew w u p
theorem PtAny.rd {W w : World} {u : Value} {p : List Nat} (h : PtAny W w u p) (hb : Below W.heap.size W w) : RdU w u (pti p) := h.elim (fun h => h.below hb) fun h => h.rd
theorem PtAny.keep {W w w' : World} {u : Value} {p : List Nat} (h : PtAny W w u p) (hk : ∀ (b : Nat) (cur : Array Value) (fr : Nat × Nat), w.heap[b]? = some (Obj.cells cur 32 fr) → w'.heap[b]? = w.heap[b]?) : PtAny W w' u p := h.imp id fun h => h.keepBlock hk
/-- the writer at block G: its bytes, the point ahead -/
def InvW (W : World) (G : Nat) (bs last : List Nat) (w : World) : Prop :=
  ∃ vb vl, w.heap[G]? = some (.cells #[vb, vl] 133 (0, 0)) ∧ OwnB W w vb bs ∧ PtAny W w vl last ∧ Below W.heap.size W w ∧ W.heap.size ≤ G
theorem InvW.bel {W w : World} {G : Nat} {bs last : List Nat} (h : InvW W G bs last w) : Below W.heap.size W w := let ⟨_, _, _, _, _, h, _⟩ := h; h
theorem InvW.lt {W w : World} {G : Nat} {bs last : List Nat} (h : InvW W G bs last w) : G < w.heap.size := let ⟨_, _, h, _⟩ := h; lt_of_block h
theorem InvW.below {W w w' : World} {G : Nat} {bs last : List Nat} (h : InvW W G bs last w) (hb : Below w.heap.size w w') : InvW W G bs last w' :=
  let ⟨vb, vl, h1, h2, h3, h4, h5⟩ := h
  ⟨vb, vl, (hb.block G (lt_of_block h1)).trans h1, h2.below hb, h3.keep fun b cur fr hbk => hb.block b (lt_of_block hbk), h4.trans (hb.mono h4.size), h5⟩
theorem two_setCell {w : World} {b k : Nat} {cur : Array Value} {u : Value} {t : TypeId} {fr : Nat × Nat} (h : w.heap[b]? = some (.cells cur t fr)) : (w.setCell ⟨b, k, none⟩ u).heap[b]? = some (.cells (cur.setIfInBounds k u) t fr) := by
  have hlt := lt_of_block h
  have h' : w.heap[b] = .cells cur t fr := by simpa [Array.getElem?_eq_getElem hlt] using h
  show (w.heap.modify b _)[b]? = _
  rw [Array.getElem?_eq_getElem (by simpa using hlt), Array.getElem_modify_self, h']
  rfl
theorem cells_of_two {w : World} {b : Nat} {u v : Value} {t : TypeId} (h : w.heap[b]? = some (.cells #[u, v] t (0, 0))) : w.cell? ⟨b, 0, none⟩ = some u ∧ w.cell? ⟨b, 1, none⟩ = some v ∧ ∀ k, w.frozen? ⟨b, k, none⟩ = false :=
  ⟨by simp [World.cell?, h], by simp [World.cell?, h], fun k => by simp [World.frozen?, h]⟩
theorem ne_type {w : World} {a b : Nat} {c1 c2 : Array Value} {t1 t2 : TypeId} {f1 f2 : Nat × Nat} (h1 : w.heap[a]? = some (.cells c1 t1 f1)) (h2 : w.heap[b]? = some (.cells c2 t2 f2)) (ht : t1 ≠ t2) : a ≠ b := by
  intro e
  subst e
  rw [h1] at h2
  injection h2 with h2
  injection h2 with _ h2 _
  exact ht h2
/-- more bytes are laid behind, and the writer is told -/
theorem InvW.push {W w3 w4 : World} {G : Nat} {vb vl v' : Value} {bs bs' last : List Nat} (hG : W.heap.size ≤ G) (hblk : w3.heap[G]? = some (.cells #[vb, vl] 133 (0, 0))) (hown : OwnB W w3 vb bs) (hl : PtAny W w3 vl last) (hb : Below W.heap.size W w3)
    (hown' : OwnB W w4 v' bs') (hg : w3.grownBy w4 vb.ownBlock) : w4.heap[G]? = some (.cells #[vb, vl] 133 (0, 0)) ∧ InvW W G bs' last (w4.setCell ⟨G, 0, none⟩ v') := by
  have hne : ∀ (b : Nat) (cur : Array Value) (t : TypeId) (fr : Nat × Nat), w3.heap[b]? = some (.cells cur t fr) → t ≠ 5 → some b ≠ vb.ownBlock := by
    intro b cur t fr h ht e
    obtain ⟨_, _, cur', fr', hc⟩ := hown.block b e.symm
    exact ne_type h hc ht rfl
  have h4 : w4.heap[G]? = some (.cells #[vb, vl] 133 (0, 0)) := (hg.block G (lt_of_block hblk) (hne G _ _ _ hblk (by decide))).trans hblk
  refine ⟨h4, v', vl, two_setCell h4, hown'.keepBlock fun b hbk => ?_, (hl.keep (w' := w4) fun b cur fr hbk => hg.block b (lt_of_block hbk) (hne b _ _ _ hbk (by decide))).keep fun b cur fr hbk => Below.heap_setCell _ _ _ _ (ne_type hbk h4 (by decide)), (hb.grown hg hb.size fun k hk => (hown.block k hk).1).setCell hG _, hG⟩
  obtain ⟨_, _, cur, fr, hc⟩ := hown'.block b hbk
  exact Below.heap_setCell _ _ _ _ (ne_type hc h4 (by decide))

/-- but for the writer and rows of bytes all stands as it stood -/
def KeepW (G : Nat) (w w' : World) : Prop := ∀ (b : Nat) (cur : Array Value) (t : TypeId) (fr : Nat × Nat), w.heap[b]? = some (.cells cur t fr) → t ≠ 5 → b ≠ G → w'.heap[b]? = some (.cells cur t fr)
theorem KeepW.refl (G : Nat) (w : World) : KeepW G w w := fun b cur t fr h _ _ => h
theorem KeepW.trans {G : Nat} {a b c : World} (h : KeepW G a b) (k : KeepW G b c) : KeepW G a c := fun x cur t fr h1 h2 h3 => k x cur t fr (h x cur t fr h1 h2 h3) h2 h3
theorem KeepW.below {G : Nat} {w w' : World} (h : Below w.heap.size w w') : KeepW G w w' := fun b cur t fr h1 _ _ => (h.block b (lt_of_block h1)).trans h1
theorem KeepW.grown {G : Nat} {W w w' : World} {v : Value} {bs : List Nat} (hown : OwnB W w v bs) (hg : w.grownBy w' v.ownBlock) : KeepW G w w' := fun b cur t fr h1 h2 _ =>
  (hg.block b (lt_of_block h1) (by
    intro e
    obtain ⟨_, _, cur', fr', hc⟩ := hown.block b e.symm
    exact ne_type h1 hc h2 rfl)).trans h1
theorem KeepW.set {G k : Nat} {w : World} {u : Value} : KeepW G w (w.setCell ⟨G, k, none⟩ u) := fun b cur t fr h1 _ h3 => (Below.heap_setCell _ _ _ _ h3).trans h1

theorem or_128 (c : Nat) : bits .or .u8 ((c : Int) % 256) 128 = (c : Int) % 128 + 128 := by
  have h : ∀ m : Fin 256, bits .or .u8 ((m.val : Nat) : Int) 128 = ((m.val % 128 + 128 : Nat) : Int) := by decide +kernel
  have := h ⟨c % 256, Nat.mod_lt _ (by omega)⟩
  simp only at this
  rw [Nat.mod_mod_of_dvd _ (by decide)] at this
  rw [show (c : Int) % 256 = ((c % 256 : Nat) : Int) by omega, this]
  omega

set_option maxRecDepth 8000 in
set_option maxHeartbeats 2000000 in
theorem wNumber_any (W w : World) (G u : Nat) (bs last : List Nat) (hi : InvW W G bs last w) (hu : u < 2 ^ 64) (hl : bs.length ≤ 100000) :
    Calls Try.prog 96 #[.pointer (some ⟨G, 0, none⟩), .int .u64 (u : Nat)] w fun e w' => e = .returned (.tuple #[]) ∧ InvW W G (bs ++ Pk.leb u) last w' ∧ KeepW G w w' := by
  have HU := Lib.hid (And.intro hu (And.intro hl hi))
  clear hu hl hi
  go_enter Try.func96, Try.ntmps96
  go_wp2_with fail
  go_loopw [1] (fun vu wr => ∃ (n c : Nat) (acc : List Nat), vu = .int .u64 (c : Nat) ∧ InvW W G (bs ++ acc) last wr ∧ acc ++ Pk.lebF n c = Pk.leb u ∧ c < 128 ^ (n + 1) ∧ c < 2 ^ 64 ∧ KeepW G w wr) (fun vu _ => (intOf vu).toNat)
  case atStart => exact ⟨9, u, [], rfl, by rw [List.append_nil]; exact HU.out.2.2, rfl, Nat.lt_of_lt_of_le HU.out.1 (by decide), HU.out.1, KeepW.refl _ _⟩
  case round =>
    obtain ⟨n, c, acc, rfl, hI, hacc, hc, hc64, hkw⟩ := hrel
    have HKw := Lib.hid hkw
    clear hkw
    have hlG : G < wr.heap.size := hI.lt
    obtain ⟨vb, vl, hblk, hown, hpt, hb, hG⟩ := hI
    obtain ⟨k0, k1, kf⟩ := cells_of_two hblk
    have HI := Lib.hid (And.intro hblk (And.intro hown (And.intro hpt (And.intro hb hG))))
    have HL := Lib.hid (show (bs ++ acc).length + 1 ≤ 1000000 by
      have h1 := congrArg List.length hacc
      rw [List.length_append] at h1
      have h2 := Pk.leb_length u
      have := HU.out.2.1
      rw [List.length_append]
      omega)
    clear hblk hown hpt hb hG
    have hcv : IntKind.u8.wrap (c : Int) = (c : Int) % 256 := by unfold IntKind.wrap; simp [IntKind.bits, IntKind.signed]
    by_cases h128 : 128 ≤ c
    · have h3 : (c : Int) > 127 := by omega
      obtain ⟨m, rfl⟩ : ∃ m, n = m + 1 := ⟨n - 1, by
        cases n with
        | zero => simp at hc; omega
        | succ n => omega⟩
      rw [Pk.lebF_big _ _ h128] at hacc
      have hor := or_128 c
      have HQ := Lib.hid (show IntKind.u64.wrap ((c : Int) / 128) = ((c / 128 : Nat) : Int) by unfold IntKind.wrap; simp [IntKind.bits, IntKind.signed]; omega)
      have HQ2 := Lib.hid (show ((c : Int) / 128) = ((c / 128 : Nat) : Int) by omega)
      have HA := Lib.hid (show (acc ++ [c % 128 + 128]) ++ Pk.lebF m (c / 128) = Pk.leb u by rw [← hacc]; simp)
      have HC := Lib.hid (show c / 128 < 128 ^ (m + 1) ∧ c / 128 < 2 ^ 64 ∧ c / 128 < c from ⟨by rw [Nat.div_lt_iff_lt_mul (by omega), ← Nat.pow_succ]; exact hc, by omega, by omega⟩)
      clear hacc hc hc64
      go_wp2_with ((at_builtin; refine wpList_append_B rfl (.tmp 12) (.tmp 16) rfl W (bs ++ acc) [c % 128 + 128] ?_ ?_ ?_ ?_ ?_))
      · exact HI.out.2.1.alloc _
      · exact RdB.one (Nat.le_refl _) (by simp [maxLen]) (by simp [go_sem])
      · exact HI.out.2.2.2.1.trans ((show Below wr.heap.size wr _ from (by repeat (first | exact Below.refl _ _ | assumption | (refine Below.drew ?_) | (refine below_drewN' ?_ _) | (refine below_alloc' ?_ _)))).mono HI.out.2.2.2.1.size)
      · have := HL.out; simp at *; omega
      intro v4 w4 hown4 _ hg4
      obtain ⟨A4, n4, c4, hv4⟩ : ∃ A n c, v4 = .slice A n c := by obtain ⟨A, c, e⟩ := hown4.shape; exact ⟨A, _, c, e⟩
      subst hv4
      obtain ⟨hb4, hI4⟩ := InvW.push HI.out.2.2.2.2 (vb := vb) (vl := vl) (last := last) (by rw [Below.heap_alloc _ _ _ hlG]; exact HI.out.1) (HI.out.2.1.alloc _) (HI.out.2.2.1.keep fun b cur fr hbk => Below.heap_alloc _ _ _ (lt_of_block hbk)) (HI.out.2.2.2.1.trans ((show Below wr.heap.size wr _ from (by repeat (first | exact Below.refl _ _ | assumption | (refine Below.drew ?_) | (refine below_drewN' ?_ _) | (refine below_alloc' ?_ _)))).mono HI.out.2.2.2.1.size)) hown4 hg4
      obtain ⟨q0, q1, qf⟩ := cells_of_two hb4
      have HK4 := Lib.hid (HKw.out.trans ((KeepW.below (show Below wr.heap.size wr _ from (by repeat (first | exact Below.refl _ _ | assumption | (refine Below.drew ?_) | (refine below_drewN' ?_ _) | (refine below_alloc' ?_ _))))).trans ((KeepW.grown (HI.out.2.1.alloc _) hg4).trans (KeepW.set (k := 0) (u := .slice A4 n4 c4)))))
      have HI4 := Lib.hid hI4
      clear hown4 hg4 hb4 hI4 k0 k1 kf
      go_wp2_with fail
      go_roundw
      case rel => exact ⟨m, c / 128, acc ++ [c % 128 + 128], by first | rw [HQ.out] | rw [HQ2.out], HI4.out, HA.out, HC.out.1, HC.out.2.1, HK4.out⟩
      case measure => first | (rw [intOf_u HQ.out, intOf_u rfl]; have := HC.out.2.2; omega) | (rw [intOf_u HQ2.out, intOf_u rfl]; have := HC.out.2.2; omega)
    · have h3 : ¬ (c : Int) > 127 := by omega
      rw [Pk.lebF_small _ _ (by omega)] at hacc
      have HA := Lib.hid (show (bs ++ acc) ++ [c] = bs ++ Pk.leb u by rw [← hacc, List.append_assoc])
      have hcm : (c : Int) % 256 = (c : Int) := by omega
      rw [hcm] at hcv
      clear hacc hc hc64
      go_wp2_with ((at_builtin; refine wpList_append_B rfl (.tmp 24) (.tmp 27) rfl W (bs ++ acc) [c] ?_ ?_ ?_ ?_ ?_))
      · exact HI.out.2.1.alloc _
      · exact RdB.one (Nat.le_refl _) (by simp [maxLen]) (by simp [go_sem])
      · exact HI.out.2.2.2.1.trans ((show Below wr.heap.size wr _ from (by repeat (first | exact Below.refl _ _ | assumption | (refine Below.drew ?_) | (refine below_drewN' ?_ _) | (refine below_alloc' ?_ _)))).mono HI.out.2.2.2.1.size)
      · have := HL.out; simp at *; omega
      intro v4 w4 hown4 _ hg4
      obtain ⟨A4, n4, c4, hv4⟩ : ∃ A n c, v4 = .slice A n c := by obtain ⟨A, c, e⟩ := hown4.shape; exact ⟨A, _, c, e⟩
      subst hv4
      obtain ⟨hb4, hI4⟩ := InvW.push HI.out.2.2.2.2 (vb := vb) (vl := vl) (last := last) (by rw [Below.heap_alloc _ _ _ hlG]; exact HI.out.1) (HI.out.2.1.alloc _) (HI.out.2.2.1.keep fun b cur fr hbk => Below.heap_alloc _ _ _ (lt_of_block hbk)) (HI.out.2.2.2.1.trans ((show Below wr.heap.size wr _ from (by repeat (first | exact Below.refl _ _ | assumption | (refine Below.drew ?_) | (refine below_drewN' ?_ _) | (refine below_alloc' ?_ _)))).mono HI.out.2.2.2.1.size)) hown4 hg4
      obtain ⟨q0, q1, qf⟩ := cells_of_two hb4
      have HK4 := Lib.hid (HKw.out.trans ((KeepW.below (show Below wr.heap.size wr _ from (by repeat (first | exact Below.refl _ _ | assumption | (refine Below.drew ?_) | (refine below_drewN' ?_ _) | (refine below_alloc' ?_ _))))).trans ((KeepW.grown (HI.out.2.1.alloc _) hg4).trans (KeepW.set (k := 0) (u := .slice A4 n4 c4)))))
      have HI4 := Lib.hid hI4
      clear hown4 hg4 hb4 hI4 k0 k1 kf
      go_wp2_with fail
      go_end0
      rw [← HA.out, List.append_assoc]
      exact ⟨rfl, HI4.out, HK4.out⟩

/-- what point leaves -/
theorem InvW.last {W w : World} {G : Nat} {bs last p : List Nat} {vp : Value} (h : InvW W G bs last w) (hp : PtAny W w vp p) : InvW W G bs p (w.setCell ⟨G, 1, none⟩ vp) := by
  obtain ⟨vb, vl, h1, h2, h3, h4, h5⟩ := h
  refine ⟨vb, vp, two_setCell h1, h2.keepBlock fun b hbk => ?_, hp.keep fun b cur fr hbk => Below.heap_setCell _ _ _ _ (ne_type hbk h1 (by decide)), h4.setCell h5 _, h5⟩
  obtain ⟨_, _, cur, fr, hc⟩ := h2.block b hbk
  exact Below.heap_setCell _ _ _ _ (ne_type hc h1 (by decide))

set_option maxRecDepth 8000 in
set_option maxHeartbeats 2000000 in
theorem wPoint_any (W w : World) (G : Nat) (p last bs : List Nat) (vp : Value) (hi : InvW W G bs last w) (hp : RdU W vp (pti p)) (hl : p.length = last.length) (h16 : p.length ≤ 16) (op : ∀ x ∈ p, x < 2 ^ 64) (ol : ∀ x ∈ last, x < 2 ^ 64) (hb0 : bs.length ≤ 50000) :
    Calls Try.prog 94 #[.pointer (some ⟨G, 0, none⟩), vp] w fun e w' => e = .returned (.tuple #[]) ∧ InvW W G (bs ++ Pk.lebP p last) p w' ∧ KeepW G w w' := by
  obtain ⟨A, cp, rfl, ga0⟩ := RdU.point hp
  have HD := Lib.hid (And.intro hl (And.intro h16 (And.intro op (And.intro ol hb0))))
  have HI0 := Lib.hid (And.intro hi hp)
  have HG := Lib.hid ga0
  clear hi hp hl h16 op ol ga0 hb0
  go_enter Try.func94, Try.ntmps94
  go_wp2_with fail
  go_loopw [8] (fun i wr => ∃ (j : Nat), j ≤ p.length ∧ i = .int .i64 j ∧ InvW W G (bs ++ Pk.lebP (p.take j) (last.take j)) last wr ∧ KeepW G w wr) (fun i _ => p.length - (intOf i).toNat)
  case atStart => exact ⟨0, Nat.zero_le _, rfl, by rw [List.take_zero, List.take_zero, show Pk.lebP [] [] = [] from rfl, List.append_nil]; exact HI0.out.1, KeepW.refl _ _⟩
  case round =>
    obtain ⟨j, hj, rfl, hI, hkw⟩ := hrel
    have HKw := Lib.hid hkw
    clear hkw
    have HI := Lib.hid hI
    have hlG : G < wr.heap.size := hI.lt
    obtain ⟨vb, vl, hblk, hown, hpt, hb, hG⟩ := hI
    obtain ⟨k0, k1, kf⟩ := cells_of_two hblk
    by_cases hlt : j < p.length
    · have hlt2 : j < last.length := by have := HD.out.1; omega
      have h3 : (j : Int) < p.length := by omega
      have h4 : (j : Int) < last.length := by omega
      have h5 : (0 : Int) ≤ (j : Int) := by omega
      obtain ⟨bk, ofs, rfl, ga⟩ := HG.out (by omega)
      have m0 := Below.keeps hb _ _ (ga j hlt)
      obtain ⟨A2, cq, rfl, gb0⟩ := RdU.point (hpt.rd hb)
      obtain ⟨bq, oq, rfl, gb⟩ := gb0 (by omega)
      have m1 := gb j hlt2
      have hxor := natCast_xor_u64 p[j] last[j] (HD.out.2.2.1 _ (List.getElem_mem hlt)) (HD.out.2.2.2.1 _ (List.getElem_mem hlt2))
      have HX := Lib.hid (Nat.xor_lt_two_pow (HD.out.2.2.1 _ (List.getElem_mem hlt)) (HD.out.2.2.2.1 _ (List.getElem_mem hlt2)))
      have HT := Lib.hid (Pk.lebP_take p last j hlt hlt2)
      have HL := Lib.hid (show (bs ++ Pk.lebP (p.take j) (last.take j)).length ≤ 100000 by
        have h1 := Pk.lebP_length (p.take j) (last.take j)
        have h3 : (p.take j).length ≤ p.length := by rw [List.length_take]; omega
        have := HD.out.2.1
        have := HD.out.2.2.2.2
        rw [List.length_append]
        omega)
      have HW := Lib.hid (show wrap64 ((j : Int) + 1) = ((j + 1 : Nat) : Int) by have := HD.out.2.1; unfold wrap64; omega)
      clear ga gb gb0 hblk hown hpt hb hG
      go_wp2_with fail
      refine (wNumber_any W _ G (p[j] ^^^ last[j]) _ last HI.out HX.out HL.out).mono ?_
      rintro e w4 ⟨rfl, hI4, hk4⟩
      have HK4 := Lib.hid (HKw.out.trans hk4)
      clear hk4
      rw [List.append_assoc, ← HT.out] at hI4
      have HI4 := Lib.hid hI4
      clear hI4 m0 m1 k0 k1 kf
      go_wp2_with fail
      go_roundw
      case rel => exact ⟨j + 1, by omega, by rw [HW.out], HI4.out, HK4.out⟩
      case measure => rw [intOf_of' HW.out, intOf_of' rfl]; omega
    · have HI2 := Lib.hid (show InvW W G (bs ++ Pk.lebP p last) last wr by have := HI.out; rwa [List.take_of_length_le (by omega), List.take_of_length_le (by have := HD.out.1; omega)] at this)
      clear hblk hown hpt hb hG
      go_wp2_with fail
      go_end0
      exact ⟨rfl, HI2.out.last (.inl HI0.out.2), HKw.out.trans KeepW.set⟩
end Go.Proofs.Ytlmgabhdeeehmaa
