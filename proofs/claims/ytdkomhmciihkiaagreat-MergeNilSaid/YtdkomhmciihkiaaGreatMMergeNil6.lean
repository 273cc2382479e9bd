/-
  Texts that the proof of MergeNil leans on, part 6: contracts of functions, and plain laws.
-/
import Derived.Test.YtdkomhmciihkiaaGreatMMergeNil5
import Derived.ScopeJumps
import Derived.WalkMore
/-! DifA -/
namespace Go.Proofs.YtdkomhmciihkiaaGreat
open Go.RowKit
set_option linter.unusedVariables false
set_option linter.unusedSimpArgs false
set_option maxRecDepth 100000

/-- what lies in blocks stays, but for one block and the rows of changes -/
structure Kp (B : Nat) (w w' : World) : Prop where
  size : w.heap.size ≤ w'.heap.size
  keep : ∀ b cur t fr, w.heap[b]? = some (.cells cur t fr) → b ≠ B → t ≠ 169 → w'.heap[b]? = some (.cells cur t fr)
theorem Kp.refl (B : Nat) (w : World) : Kp B w w := ⟨Nat.le_refl _, fun b cur t fr h _ _ => h⟩
theorem Kp.trans {B : Nat} {w w' w'' : World} (h : Kp B w w') (g : Kp B w' w'') : Kp B w w'' := ⟨Nat.le_trans h.size g.size, fun b cur t fr q1 q2 q3 => g.keep b cur t fr (h.keep b cur t fr q1 q2 q3) q2 q3⟩
theorem Kp.of {B : Nat} {w w' : World} (h : Below w.heap.size w w') : Kp B w w' := ⟨h.size, fun b cur t fr q1 _ _ => (h.block b (lt_of_block q1)).trans q1⟩
theorem Kp.ptNew {B : Nat} {w w' : World} (h : Kp B w w') (hB : ∃ vo, w.heap[B]? = some (.cells #[vo] 81 (0, 0))) {u : Value} {p : List Nat} (hu : PtNew w u p) : PtNew w' u p :=
  hu.keepBlock fun b cur fr hb => (h.keep b cur _ fr hb (fun e => by
    subst e
    obtain ⟨vo, h1⟩ := hB
    rw [hb] at h1
    injection h1 with h1
    injection h1 with _ h1 _
    revert h1; decide) (by decide)).trans hb.symm
theorem InvT.blkB {W w : World} {B : Nat} {o : List Ch} (h : InvT W B o w) : ∃ vo, w.heap[B]? = some (.cells #[vo] 81 (0, 0)) := let ⟨vo, h1, _⟩ := h; ⟨vo, h1⟩
theorem InvT.step {W w w' : World} {B : Nat} {o : List Ch} (h : InvT W B o w) (hb : Below w.heap.size w w') : InvT W B o w' := h.below (let ⟨_, h1⟩ := h.blkB; lt_of_block h1) hb
theorem Kp.ownD {B : Nat} {W w w' : World} (h : Kp B w w') (hB : ∃ vo, w.heap[B]? = some (.cells #[vo] 81 (0, 0))) {v : Value} {l : List En} (hv : OwnD (PtNew w) W w v l) : OwnD (PtNew w') W w' v l := by
  obtain ⟨cs, ⟨h1, h2⟩, h3⟩ := hv
  refine ⟨cs, ⟨h1, ?_⟩, h3.mono fun u p hu => h.ptNew hB hu⟩
  rcases h2 with h2 | ⟨g, cap, cur, q1, q2, q3, q4⟩
  · exact .inl h2
  · refine .inr ⟨g, cap, cur, q1, q2, h.keep g cur _ _ q3 (fun e => ?_) (by decide), q4⟩
    subst e
    obtain ⟨vo, e1⟩ := hB
    rw [q3] at e1
    injection e1 with e1
    injection e1 with _ e1 _
    revert e1; decide
/-- a step of the lockstep: so much has been told -/
def StP (W : World) (B : Nat) (d : List Ch) (w : World) (e : Ending) (w' : World) : Prop := e = .returned (.tuple #[]) ∧ InvT W B d w' ∧ Kp B w w'
abbrev SV (B : Nat) : Value := .agg #[.func (.func 149) #[] #[.pointer (some ⟨B, 0, none⟩)]]
set_option maxHeartbeats 1000000 in
theorem dTell_any (W w : World) (B : Nat) (d : List Ch) (c : Ch) (u : Value) (hW : W.heap.size ≤ B) (hi : InvT W B d w) (hu : PtNew w u c.p) (hol : d.length ≤ 10000) :
    Calls Tryz.prog 149 #[AgC u c, .pointer (some ⟨B, 0, none⟩)] w fun e w' => StP W B (d ++ [c]) w e w' := by
  obtain ⟨vo, hblk, hown, hbW⟩ := hi
  have kb := cell_of_one hblk
  have hlB := lt_of_block hblk
  have HI := Lib.hid (And.intro hblk (And.intro hown (And.intro hbW (And.intro hW (And.intro hol hu)))))
  obtain ⟨Au, cu, rfl, _⟩ := RdU.point hu.rd
  obtain ⟨Ao, no, co, rfl⟩ := hown.shape
  obtain ⟨p, had, has, old, new⟩ := c
  clear hblk hown hbW hW hol hu
  simp only [AgC]
  go_enter Tryz.func149, Tryz.ntmps149
  go_wp2_with ((at_builtin; refine wpList_append_C (Pt := PtNew w) rfl (.tmp 3) (.tmp 5) rfl W d ⟨p, had, has, old, new⟩ ?_ ?_ ?_ ?_ ?_ ?_))
  · exact fun u p h => h.rd.below (by repeat (first | exact Below.refl _ _ | (refine Below.drew ?_) | (refine below_drewN' ?_ _) | (refine below_alloc' ?_ _) | (refine Below.setCell ?_ (by first | exact Nat.le_refl _ | (simp; done) | (simp; omega)) _)))
  · exact HI.out.2.1.below (by repeat (first | exact Below.refl _ _ | (refine Below.drew ?_) | (refine below_drewN' ?_ _) | (refine below_alloc' ?_ _) | (refine Below.setCell ?_ (by first | exact Nat.le_refl _ | (simp; done) | (simp; omega)) _)))
  · exact ⟨_, _, _, rfl, by simp [go_sem], HI.out.2.2.2.2.2, by simp [go_sem], by simp [go_sem], by simp [go_sem], by simp [go_sem]⟩
  · have := HI.out.2.2.1.size; simp; omega
  · have := HI.out.2.2.2.2.1; omega
  intro v' w4 hown4 hg4
  obtain ⟨A4, n4, c4, rfl⟩ := hown4.shape
  have hbe : Below w.heap.size w ((w.alloc (.cells #[.slice Au p.length cu, .bool had, .bool has, .int .u64 (old : Nat), .int .u64 (new : Nat)] 169)).alloc (.cells #[.slice Au p.length cu, .bool had, .bool has, .int .u64 (old : Nat), .int .u64 (new : Nat)] 169)) := (by repeat (first | exact Below.refl _ _ | (refine Below.drew ?_) | (refine below_drewN' ?_ _) | (refine below_alloc' ?_ _) | (refine Below.setCell ?_ (by first | exact Nat.le_refl _ | (simp; done) | (simp; omega)) _)))
  obtain ⟨hb6, hI6⟩ := InvT.push HI.out.2.2.2.1 ((hbe.block B hlB).trans HI.out.1) ((HI.out.2.1.below hbe).mono fun u p h => h.below hbe) (HI.out.2.2.1.trans (hbe.mono HI.out.2.2.1.size)) (hown4.mono fun u p h => h.below hbe) hg4
  have hkp : Kp B w (w4.setCell ⟨B, 0, none⟩ (.slice A4 n4 c4)) := (Kp.of hbe).trans ⟨by have h9 := hg4.size; simp at h9 ⊢; omega, fun b cur t fr h1 h2 h3 => by
    have e1 := hg4.block b (lt_of_block h1) (fun e => by
      obtain ⟨_, cur', hc'⟩ := HI.out.2.1.block b e.symm
      have := (hbe.block b (lt_of_block hc')).trans hc'
      rw [this] at h1
      injection h1 with h1
      injection h1 with _ h1 _
      exact h3 h1.symm)
    rw [Below.heap_setCell _ _ _ _ h2, e1, h1]⟩
  have c6 := cell_of_one hb6
  have f6 := free_of_one hb6
  have hl6 := lt_of_block hb6
  have HI6 := Lib.hid (And.intro hI6 hkp)
  clear hown4 hg4 hb6 hI6 hbe kb hlB hkp
  go_wp2_with fail
  go_end0
  exact ⟨rfl, HI6.out.1, HI6.out.2⟩
theorem come_any (w : World) (p : List Nat) (x : Nat) (u : Value) (hu : RdU w u (pti p)) :
    Calls Tryz.prog 207 #[.agg #[u, .int .u64 (x : Nat)]] w fun e w' => e = .returned (AgC u (comeC ⟨p, x⟩)) ∧ Below w.heap.size w w' := by
  obtain ⟨A, c, rfl, _⟩ := RdU.point hu
  go_enter Tryz.func207, Tryz.ntmps207
  go_wp2_with fail
  refine bodyPost_ret (v := AgC (.slice A p.length c) (comeC ⟨p, x⟩)) (by simp [results, Tryz.results207, go_sem, AgC, comeC]) rfl ⟨rfl, (by repeat (first | exact Below.refl _ _ | (refine Below.drew ?_) | (refine below_drewN' ?_ _) | (refine below_alloc' ?_ _) | (refine Below.setCell ?_ (by first | exact Nat.le_refl _ | (simp; done) | (simp; omega)) _)))⟩
theorem gone_any (w : World) (p : List Nat) (x : Nat) (u : Value) (hu : RdU w u (pti p)) :
    Calls Tryz.prog 208 #[.agg #[u, .int .u64 (x : Nat)]] w fun e w' => e = .returned (AgC u (goneC ⟨p, x⟩)) ∧ Below w.heap.size w w' := by
  obtain ⟨A, c, rfl, _⟩ := RdU.point hu
  go_enter Tryz.func208, Tryz.ntmps208
  go_wp2_with fail
  refine bodyPost_ret (v := AgC (.slice A p.length c) (goneC ⟨p, x⟩)) (by simp [results, Tryz.results208, go_sem, AgC, goneC]) rfl ⟨rfl, (by repeat (first | exact Below.refl _ _ | (refine Below.drew ?_) | (refine below_drewN' ?_ _) | (refine below_alloc' ?_ _) | (refine Below.setCell ?_ (by first | exact Nat.le_refl _ | (simp; done) | (simp; omega)) _)))⟩

/-- how an entry is told -/
def AsOk (f : FuncId) (g : En → Ch) : Prop := (∀ args w, (callFunc f args).run Tryz.prog w = .ok (.enter f args) w) ∧ (∀ e, (g e).p = e.p) ∧
  ∀ (w : World) (p : List Nat) (x : Nat) (u : Value), RdU w u (pti p) → Calls Tryz.prog f #[.agg #[u, .int .u64 (x : Nat)]] w fun e w' => e = .returned (AgC u (g ⟨p, x⟩)) ∧ Below w.heap.size w w'
theorem as_come : AsOk 207 comeC := ⟨enters_func (Tryz.func207) (by kernel_rfl) (by kernel_rfl), fun _ => rfl, fun w p x u hu => come_any w p x u hu⟩
theorem as_gone : AsOk 208 goneC := ⟨enters_func (Tryz.func208) (by kernel_rfl) (by kernel_rfl), fun _ => rfl, fun w p x u hu => gone_any w p x u hu⟩
end Go.Proofs.YtdkomhmciihkiaaGreat
/-! DifB -/
namespace Go.Proofs.YtdkomhmciihkiaaGreat
open Go.RowKit
set_option linter.unusedVariables false
set_option linter.unusedSimpArgs false
set_option maxRecDepth 100000

set_option maxHeartbeats 4000000 in
theorem dAll_any (W w : World) (B k : Nat) (r : Option Nat) (l : List En) (d : List Ch) (f : FuncId) (g : En → Ch) (hf : AsOk f g) (hW : W.heap.size ≤ B) (hr : RtN W k r l) (k1 : 1 ≤ k) (k16 : k ≤ 16) (hi : InvT W B d w) (hN : d.length + l.length ≤ 10000) :
    Calls Tryz.prog 206 #[SV B, pv r, .func (.func f) #[] #[]] w fun e w' => StP W B (d ++ l.map g) w e w' := by
  have hent := hf.1
  have htent := enters_func (Tryz.func149) (by kernel_rfl) (by kernel_rfl)
  have HF := Lib.hid hf
  have HI := Lib.hid (And.intro hi (And.intro hN hW))
  have hbx : Below w.heap.size w (w.alloc (.cells #[.func (.func 149) #[] #[.pointer (some ⟨B, 0, none⟩)]] 236)) := (by repeat (first | exact Below.refl _ _ | (refine Below.drew ?_) | (refine below_drewN' ?_ _) | (refine below_alloc' ?_ _) | (refine Below.setCell ?_ (by first | exact Nat.le_refl _ | (simp; done) | (simp; omega)) _)))
  have HBX := Lib.hid hbx
  have HWA := Lib.hid (wall_any (w.alloc (.cells #[.func (.func 149) #[] #[.pointer (some ⟨B, 0, none⟩)]] 236)) k r l (hr.below (hi.bel.trans (hbx.mono hi.bel.size))) k1 k16 (by omega))
  obtain ⟨q, hq⟩ := pv_ex r
  rw [hq] at HWA ⊢
  clear hf hr k1 k16 hi hN hW hq hbx
  go_enter Tryz.func206, Tryz.ntmps206
  go_wp2_with fail
  refine HWA.out.mono ?_
  rintro e w2 ⟨v, rfl, hown, hb2⟩
  have HO := Lib.hid hown
  have HK2 := Lib.hid (show Kp B w w2 from (Kp.of HBX.out).trans (Kp.of hb2))
  have HS2 := Lib.hid (show w2.heap[w.heap.size]? = some (.cells #[.func (.func 149) #[] #[.pointer (some ⟨B, 0, none⟩)]] 236 (0, 0)) from (hb2.block _ (by simp)).trans (alloc_blk _ _))
  have HI2 := Lib.hid (InvT.step (InvT.step HI.out.1 HBX.out) hb2)
  obtain ⟨sb, hsb⟩ : ∃ sb, w.heap.size = sb := ⟨_, rfl⟩
  have HSB := Lib.hid (show sb ≠ B from fun e => by
    have := lt_of_block (Exists.choose_spec (InvT.blkB HI.out.1))
    omega)
  rw [hsb] at HS2 ⊢
  obtain ⟨A2, c2, rfl⟩ := hown.shape
  clear hown hb2 HWA hsb
  go_wp2_with fail
  go_loopw [7, 11] (fun _ iv wr => ∃ j : Nat, j ≤ l.length ∧ iv = .int .i64 (j : Nat) ∧ InvT W B (d ++ (l.take j).map g) wr ∧ Kp B w2 wr) (fun _ iv _ => l.length - (intOf iv).toNat)
  case atStart => exact ⟨0, Nat.zero_le _, rfl, by simpa using HI2.out, Kp.refl _ _⟩
  case round =>
    obtain ⟨j, hj, rfl, hiv, hkp⟩ := hrel
    have HR := Lib.hid (And.intro hiv hkp)
    by_cases hlt : j < l.length
    · have h3 : (j : Int) < l.length := by omega
      have h5 : (0 : Int) ≤ (j : Int) := by omega
      have HW := Lib.hid (show wrap64 ((j : Int) + 1) = ((j + 1 : Nat) : Int) by have := HI.out.2.1; unfold wrap64; omega)
      have hown := hkp.ownD HI2.out.blkB HO.out
      obtain ⟨gr, cap, cur, ev, q2, q3, q4, q5, q6, q7⟩ := hown.cells (fun h => by rw [h] at hlt; simp at hlt)
      simp only [Value.slice.injEq] at ev
      obtain ⟨rfl, _, rfl⟩ := ev
      obtain ⟨u, r1, r2, r3⟩ := q7 j hlt
      have k0 : wr.cell? ⟨gr, j * 2, none⟩ = some u := by simp [World.cell?, q3, r1]
      have k1 : wr.cell? ⟨gr, j * 2 + 1, none⟩ = some (.int .u64 (l[j].v : Nat)) := by simp [World.cell?, q3, r3]
      have hgl := World.block_lt_of_cell? wr _ k0
      have hsblk := hkp.keep sb _ _ _ HS2.out HSB.out (by decide)
      have ks := cell_of_one hsblk
      have hsl := lt_of_block hsblk
      have HTK := Lib.hid (show (l.take (j + 1)).map g = (l.take j).map g ++ [g l[j]] by rw [← List.take_append_getElem hlt, List.map_append]; rfl)
      have HP := Lib.hid (show PtNew wr u (g l[j]).p from by rw [HF.out.2.1]; exact r2)
      have HAS := Lib.hid (fun (W1 : World) (hb : Below wr.heap.size wr W1) => HF.out.2.2 W1 l[j].p l[j].v u (r2.rd.below hb))
      have hgx : g l[j] = g ⟨l[j].p, l[j].v⟩ := rfl
      rw [hgx] at HTK HP
      have HLN := Lib.hid (show (d ++ (l.take j).map g).length ≤ 10000 from by rw [List.length_append, List.length_map, List.length_take]; have := HI.out.2.1; omega)
      have hsn : ¬ sb = wr.heap.size := by omega
      obtain ⟨A0, cc, rfl, _⟩ := RdU.point r2.rd
      generalize l[j].p = xp at *
      generalize l[j].v = xv at *
      clear hiv hkp hown q2 q3 q4 q5 q6 q7 r1 r2 r3 hsblk hgx
      go_wp2_with fail
      refine wp_region_vals 5 [fun z9 _ => z9 = .pointer (some ⟨sb, 0, none⟩),
        fun z9 _ => z9 = .func (.func 149) #[] #[.pointer (some ⟨B, 0, none⟩)],
        fun z9 _ => z9 = .func (.func f) #[] #[],
        fun z9 _ => z9 = .agg #[.slice A0 xp.length cc, .int .u64 (xv : Nat)],
        fun z9 _ => z9 = AgC (.slice A0 xp.length cc) (g ⟨xp, xv⟩)]
        (by kernel_rfl) (by kernel_rfl) (by kernel_rfl) (by kernel_rfl) ?_ ?_ ?_
      · intro V hV v w1 w2 h hb
        simp only [List.mem_cons, List.not_mem_nil, or_false] at hV
        rcases hV with rfl | rfl | rfl | rfl | rfl
        all_goals first | exact h | (exact h)
      · intro iq oq hiq hoq
        match iq, hiq with
        | 0, _ =>
        obtain rfl := Option.some.inj hoq
        intro a1 w1 K hk hK
        have e3 : a1.tmps.getD 3 undef = .pointer (some ⟨sb, 0, none⟩) := hk.same 3 (by simp)
        simp [Region.wanted, Oper.wp, Act.eval, go_sem, e3, ks, k0, k1, hent, hgl, hsl, hsn]
        exact hK _ _ (Below.refl _ _) rfl
        | 1, _ =>
        obtain rfl := Option.some.inj hoq
        intro a1 w1 K hk hK
        have d15 : a1.tmps.getD 15 undef = .pointer (some ⟨sb, 0, none⟩) := hk.deps ⟨0, .data⟩ (by simp) rfl _ _ rfl rfl
        have c0 : w1.cell? ⟨sb, 0, none⟩ = some (.func (.func 149) #[] #[.pointer (some ⟨B, 0, none⟩)]) := Below.keeps hk.ext _ _ (by simp [go_sem, ks, k0, k1, hent, hgl, hsl, hsn])
        have c1 : w1.cell? ⟨wr.heap.size, 0, none⟩ = some (.slice A0 xp.length cc) := Below.keeps hk.ext _ _ (by simp [go_sem, ks, k0, k1, hent, hgl, hsl, hsn])
        have c2 : w1.cell? ⟨wr.heap.size, 1, none⟩ = some (.int .u64 (xv : Nat)) := Below.keeps hk.ext _ _ (by simp [go_sem, ks, k0, k1, hent, hgl, hsl, hsn])
        simp [Region.wanted, Oper.wp, Act.eval, go_sem, d15, c0, c1, c2, ks, k0, k1, hent, hgl, hsl, hsn]
        exact hK _ _ (Below.refl _ _) rfl
        | 2, _ =>
        obtain rfl := Option.some.inj hoq
        intro a1 w1 K hk hK
        have e2 : a1.tmps.getD 2 undef = .func (.func f) #[] #[] := hk.same 2 (by simp)
        simp [Region.wanted, Oper.wp, Act.eval, go_sem, e2, ks, k0, k1, hent, hgl, hsl, hsn]
        exact hK _ _ (Below.refl _ _) rfl
        | 3, _ =>
        obtain rfl := Option.some.inj hoq
        intro a1 w1 K hk hK
        have e7 : a1.tmps.getD 7 undef = .pointer (some ⟨wr.heap.size, 0, none⟩) := hk.same 7 (by simp)
        have c0 : w1.cell? ⟨sb, 0, none⟩ = some (.func (.func 149) #[] #[.pointer (some ⟨B, 0, none⟩)]) := Below.keeps hk.ext _ _ (by simp [go_sem, ks, k0, k1, hent, hgl, hsl, hsn])
        have c1 : w1.cell? ⟨wr.heap.size, 0, none⟩ = some (.slice A0 xp.length cc) := Below.keeps hk.ext _ _ (by simp [go_sem, ks, k0, k1, hent, hgl, hsl, hsn])
        have c2 : w1.cell? ⟨wr.heap.size, 1, none⟩ = some (.int .u64 (xv : Nat)) := Below.keeps hk.ext _ _ (by simp [go_sem, ks, k0, k1, hent, hgl, hsl, hsn])
        simp [Region.wanted, Oper.wp, Act.eval, go_sem, e7, c0, c1, c2, ks, k0, k1, hent, hgl, hsl, hsn]
        exact hK _ _ (Below.refl _ _) rfl
        | 4, _ =>
        obtain rfl := Option.some.inj hoq
        intro a1 w1 K hk hK
        have d17 : a1.tmps.getD 17 undef = .func (.func f) #[] #[] := hk.deps ⟨2, .data⟩ (by simp) rfl _ _ rfl rfl
        have d18 : a1.tmps.getD 18 undef = .agg #[.slice A0 xp.length cc, .int .u64 (xv : Nat)] := hk.deps ⟨3, .data⟩ (by simp) rfl _ _ rfl rfl
        simp [Region.wanted, Oper.wp, Act.eval, go_sem, d17, d18, ks, k0, k1, hent, hgl, hsl, hsn]
        refine (HAS.out _ (below_trans (by repeat (first | exact Below.refl _ _ | (refine Below.drew ?_) | (refine below_drewN' ?_ _) | (refine below_alloc' ?_ _) | (refine Below.setCell ?_ (by first | exact Nat.le_refl _ | (simp; done) | (simp; omega)) _))) hk.ext)).mono ?_
        rintro e w9 ⟨rfl, hb9⟩
        exact hK _ _ hb9 rfl
      · intro vs w3 hl hb3 hv
        match vs, hl with
        | [v0, v1, v2, v3, v4], _ =>
        obtain rfl : v0 = .pointer (some ⟨sb, 0, none⟩) := hv 0 (by omega)
        obtain rfl : v1 = .func (.func 149) #[] #[.pointer (some ⟨B, 0, none⟩)] := hv 1 (by omega)
        obtain rfl : v2 = .func (.func f) #[] #[] := hv 2 (by omega)
        obtain rfl : v3 = .agg #[.slice A0 xp.length cc, .int .u64 (xv : Nat)] := hv 3 (by omega)
        obtain rfl : v4 = AgC (.slice A0 xp.length cc) (g ⟨xp, xv⟩) := hv 4 (by omega)
        clear hv
        simp only [putAll, List.take_succ_cons, List.take_zero, List.drop_succ_cons, List.drop_zero, Act.put, List.setIfInBounds_toArray, List.set_cons_succ, List.set_cons_zero]
        have hb4 : Below wr.heap.size wr w3 := below_trans (by repeat (first | exact Below.refl _ _ | (refine Below.drew ?_) | (refine below_drewN' ?_ _) | (refine below_alloc' ?_ _) | (refine Below.setCell ?_ (by first | exact Nat.le_refl _ | (simp; done) | (simp; omega)) _))) hb3
        have HD := Lib.hid (dTell_any W w3 B (d ++ (l.take j).map g) (g ⟨xp, xv⟩) _ HI.out.2.2 (HR.out.1.step hb4) (HP.out.below hb4) HLN.out)
        have HK4 := Lib.hid (HR.out.2.trans (Kp.of hb4))
        obtain ⟨gp, gh, gs, go, gn, hgc⟩ : ∃ a b c d e, g ⟨xp, xv⟩ = ⟨a, b, c, d, e⟩ := ⟨_, _, _, _, _, rfl⟩
        rw [hgc] at HD HTK ⊢
        simp only [AgC] at HD ⊢
        clear hb3 hb4 hgc k0 k1 ks hgl hsl
        go_wp2_with fail
        refine HD.out.mono ?_
        rintro e w5 ⟨rfl, hi5, hk5⟩
        have HF5 := Lib.hid (And.intro hi5 (HK4.out.trans hk5))
        clear hi5 hk5
        go_wp2_with fail
        go_roundw
        case rel => exact ⟨j + 1, by omega, (by first | rw [HW.out] | rfl | simp), by rw [HTK.out, ← List.append_assoc]; exact HF5.out.1, HF5.out.2⟩
        case measure => (first | (rw [intOf_of' HW.out, intOf_of' rfl]; omega) | (simp [intOf]; omega) | (simp [intOf] <;> omega))
    · have h3 : ¬ (j : Int) < (l.length : Int) := by omega
      have e : l.take j = l := List.take_of_length_le (by omega)
      rw [e] at HR
      clear hiv hkp e
      go_wp2_with fail
      go_end0
      exact ⟨rfl, HR.out.1, HK2.out.trans HR.out.2⟩
end Go.Proofs.YtdkomhmciihkiaaGreat
/-! DifQ -/
namespace Go.Proofs.YtdkomhmciihkiaaGreat
open Go.RowKit
set_option linter.unusedVariables false

theorem cut_cut2 {k : Nat} {p : List Nat} (ho : ∀ c ∈ p, c < 2 ^ 64) {m n : Nat} (h : m ≤ n) : Zb.cutN (Zb.cutN p m) n = Zb.cutN p n :=
  (Zb.cut_agree (Zb.cutN_length p m) (Zb.cutN_ok ho m) ho n).2 ((Zb.agree_cut p m).mono h)
/-- all lie below one address of one node -/
structure Below1 (k n : Nat) (pre : List Nat) (a : Nat) (l : List En) : Prop where
  et : Et k l
  n64 : n < 64
  pre : ∀ e ∈ l, Zb.cutN e.p (n + 1) = pre
  adr : ∀ e ∈ l, Zb.addr e.p n = a
theorem Below1.nil (k n : Nat) (pre : List Nat) (a : Nat) (hn : n < 64) : Below1 k n pre a [] := ⟨Et.nil k, hn, fun e he => (by cases he), fun e he => (by cases he)⟩
theorem Below1.ahead {k n a b : Nat} {pre : List Nat} {l m : List En} (h : Below1 k n pre a l) (g : Below1 k n pre b m) (hab : a < b) : Ahead l m := fun x hx y hy => by
  refine pkey_lt (by rw [h.et.len x hx, g.et.len y hy]) h.n64 ?_ (by rw [h.adr x hx, g.adr y hy]; exact hab)
  exact (Zb.cut_agree (by rw [h.et.len x hx, g.et.len y hy]) (h.et.ok x hx) (g.et.ok y hy) _).1 (by rw [h.pre x hx, g.pre y hy])
theorem Kd.below1 {k n : Nat} {pre : List Nat} {ks : List (Nat × List En)} (h : Kd k n pre ks) {x : Nat × List En} (hx : x ∈ ks) : Below1 k n pre x.1 x.2 := ⟨h.et x hx, h.n64, h.pre x hx, h.adr x hx⟩
theorem cat_ahead {A : List (Nat × List En)} {m : List En} (h : ∀ x ∈ A, Ahead x.2 m) : Ahead (cat A) m := fun e he f hf => by
  obtain ⟨x, hx, he⟩ := mem_cat.1 he
  exact h x hx e he f hf
theorem ahead_cat {A : List (Nat × List En)} {l : List En} (h : ∀ x ∈ A, Ahead l x.2) : Ahead l (cat A) := fun e he f hf => by
  obtain ⟨x, hx, hf⟩ := mem_cat.1 hf
  exact h x hx e he f hf
/-- kids, but two at least are not asked for -/
structure Kz (k n : Nat) (pre : List Nat) (ks : List (Nat × List En)) : Prop where
  asc : Od.Asc ka ks
  bel : ∀ x ∈ ks, Below1 k n pre x.1 x.2
theorem Kd.kz {k n : Nat} {pre : List Nat} {ks : List (Nat × List En)} (h : Kd k n pre ks) : Kz k n pre ks := ⟨h.asc, fun x hx => h.below1 hx⟩
theorem Kz.take {k n : Nat} {pre : List Nat} {ks : List (Nat × List En)} (h : Kz k n pre ks) (i : Nat) : Kz k n pre (ks.take i) := ⟨List.Pairwise.sublist (List.take_sublist i ks) h.asc, fun x hx => h.bel x (List.mem_of_mem_take hx)⟩
theorem Kz.tail {k n : Nat} {pre : List Nat} {x : Nat × List En} {ks : List (Nat × List En)} (h : Kz k n pre (x :: ks)) : Kz k n pre ks := ⟨h.asc.tail, fun y hy => h.bel y (by simp [hy])⟩
theorem Kz.et {k n : Nat} {pre : List Nat} {ks : List (Nat × List En)} (h : Kz k n pre ks) : Et k (cat ks) := by
  induction ks with
  | nil => exact Et.nil k
  | cons x ks ih =>
    have e1 : cat (x :: ks) = x.2 ++ cat ks := by unfold cat; rw [List.flatMap_cons]
    rw [e1]
    exact (h.bel x (by simp)).et.app (ih h.tail) (ahead_cat fun y hy => (h.bel x (by simp)).ahead (h.bel y (by simp [hy])) (h.asc.head y hy))
/-- the first i kids lie ahead of what is below an address that none of them reaches -/
theorem Kz.take_ahead {k n a : Nat} {pre : List Nat} {ks : List (Nat × List En)} (h : Kz k n pre ks) (i : Nat) {m : List En} (hm : Below1 k n pre a m) (hl : ∀ j (hj : j < ks.length), j < i → ks[j].1 < a) : Ahead (cat (ks.take i)) m :=
  cat_ahead fun x hx => by
    obtain ⟨j, hj, rfl⟩ := List.mem_iff_getElem.1 hx
    rw [List.length_take] at hj
    rw [List.getElem_take]
    exact (h.bel _ (List.getElem_mem (show j < ks.length by omega))).ahead hm (hl j (by omega) (by omega))
theorem Kz.lt {k n : Nat} {pre : List Nat} {ks : List (Nat × List En)} (h : Kz k n pre ks) {i j : Nat} (hij : i < j) (hj : j < ks.length) : (ks[i]'(by omega)).1 < ks[j].1 := List.pairwise_iff_getElem.1 h.asc i j (by omega) hj hij
/-- which of two comes first is seen by their prefixes -/
theorem apart_order {k n : Nat} {p q p' q' : List Nat} (l1 : p.length = k) (l2 : q.length = k) (l3 : p'.length = k) (l4 : q'.length = k) (o1 : ∀ c ∈ p, c < 2 ^ 64) (o2 : ∀ c ∈ q, c < 2 ^ 64) (o3 : ∀ c ∈ p', c < 2 ^ 64) (o4 : ∀ c ∈ q', c < 2 ^ 64)
    (hp : Zb.cutN p n = Zb.cutN p' n) (hq : Zb.cutN q n = Zb.cutN q' n) (hne : Zb.cutN p n ≠ Zb.cutN q n) : (pkey p < pkey q ↔ pkey p' < pkey q') ∧ (pkey p < pkey q ∨ pkey q < pkey p) := by
  have a1 : Zb.agree p p' n := (Zb.cut_agree (by rw [l1, l3]) o1 o3 n).1 hp
  have a2 : Zb.agree q q' n := (Zb.cut_agree (by rw [l2, l4]) o2 o4 n).1 hq
  have hm0 : ¬ Zb.part p q 64 < n := fun h => hne ((Zb.cut_agree (by rw [l1, l2]) o1 o2 n).2 ((Zb.part_agree p q n).1 h))
  have hm1 := Zb.part_lt p q 64
  obtain ⟨m, hm⟩ : ∃ m : Nat, Zb.part p q 64 = m := ⟨(Zb.part p q 64).toNat, by omega⟩
  have hnm : n ≤ m := by omega
  have hm64 : m < 64 := by omega
  have a3 : Zb.agree p q (m + 1) := (Zb.part_agree p q (m + 1)).1 (by omega)
  have hd : Zb.addr p m ≠ Zb.addr q m := fun h => by
    have : Zb.agree p q m := fun j h1 h2 => by
      by_cases e : j = m
      · subst e; exact h
      · exact a3 j (by omega) h2
    have := (Zb.part_agree p q m).2 this
    omega
  have e1 : Zb.addr p' m = Zb.addr p m := (a1 m hnm hm64).symm
  have e2 : Zb.addr q' m = Zb.addr q m := (a2 m hnm hm64).symm
  have sy : ∀ {x y : List Nat} {j : Nat}, Zb.agree x y j → Zb.agree y x j := fun h i h1 h2 => (h i h1 h2).symm
  have a4 : Zb.agree p' q' (m + 1) := ((sy a1).mono (by omega)).trans (a3.trans (a2.mono (by omega)))
  rcases Nat.lt_or_gt_of_ne hd with h | h
  · have x1 := pkey_lt (by rw [l1, l2]) hm64 a3 h
    have x2 := pkey_lt (p := p') (q := q') (by rw [l3, l4]) hm64 a4 (by rw [e1, e2]; exact h)
    exact ⟨⟨fun _ => x2, fun _ => x1⟩, .inl x1⟩
  · have x1 := pkey_lt (p := q) (q := p) (by rw [l1, l2]) hm64 (sy a3) h
    have x2 := pkey_lt (p := q') (q := p') (by rw [l3, l4]) hm64 (sy a4) (by rw [e1, e2]; exact h)
    exact ⟨⟨fun h => by omega, fun h => by omega⟩, .inr x1⟩
end Go.Proofs.YtdkomhmciihkiaaGreat
/-! DifC -/
namespace Go.Proofs.YtdkomhmciihkiaaGreat
open Go.RowKit
set_option linter.unusedVariables false
set_option linter.unusedSimpArgs false
set_option maxRecDepth 100000

def thL (th : Bool) (lo : List En) : List En := if th then lo else []
theorem thL_true (lo : List En) : thL true lo = lo := rfl
theorem thL_false (lo : List En) : thL false lo = [] := rfl
/-- the changes, seen from one side -/
structure SideOk (k : Nat) (g : En → Ch) (DS : List En → List En → List Ch) : Prop where
  app : ∀ {a1 a2 b1 b2 : List En}, Et k a1 → Et k a2 → Et k b1 → Et k b2 → Ahead a1 a2 → Ahead a1 b2 → Ahead b1 a2 → Ahead b1 b2 → DS (a1 ++ a2) (b1 ++ b2) = DS a1 b1 ++ DS a2 b2
  one : ∀ {a : List En}, Et k a → DS a [] = a.map g
  len : ∀ {a b : List En}, Et k a → Et k b → (DS a b).length ≤ a.length + b.length
theorem side_gone (k : Nat) : SideOk k goneC changesL := ⟨fun h1 h2 h3 h4 => chg_append h1 h2 h3 h4, fun h => chg_gone h, fun h1 h2 => changes_len h1 h2⟩
theorem side_come (k : Nat) : SideOk k comeC (fun a b => changesL b a) := ⟨fun h1 h2 h3 h4 x1 x2 x3 x4 => chg_append h3 h4 h1 h2 x4 x3 x2 x1, fun h => chg_come h, fun h1 h2 => by have := changes_len h2 h1; omega⟩
set_option maxHeartbeats 8000000 in
theorem beside_any (W w : World) (B k n b s a : Nat) (pre : List Nat) (ks : List (Nat × Nat × List En)) (lo : List En) (d : List Ch) (f fi : FuncId) (g : En → Ch) (capI : Array Value) (DS : List En → List En → List Ch)
    (hf : AsOk f g) (hDS : SideOk k g DS) (hent : ∀ args w, (callFunc fi args).run Tryz.prog w = .ok (.enter fi args) w) (hW : W.heap.size ≤ B)
    (c3 : W.cell? ⟨b, 3, none⟩ = some (.pointer (some ⟨s, 0, none⟩))) (hs : SlR W s k (ks.map kb)) (hk : Kd k n pre (ks.map kl)) (hn : ∀ x ∈ ks, Nd W k x.2.1 x.2.2) (k1 : 1 ≤ k) (k16 : k ≤ 16)
    (hlo : Below1 k n pre a lo) (ha : a < 65536) (hi : InvT W B d w) (hN : d.length + (cat (ks.map kl)).length + lo.length ≤ 10000)
    (HIN : ∀ (r : Option Nat) (lx : List En) (w' : World) (d' : List Ch), RtN W k r lx → lx.length < (cat (ks.map kl)).length → InvT W B d' w' → Kp B w w' → d'.length + lx.length + lo.length ≤ 10000 → Calls Tryz.prog fi (#[pv r] ++ capI) w' fun e w'' => StP W B (d' ++ DS lx lo) w' e w'') :
    Calls Tryz.prog 210 #[SV B, .pointer (some ⟨b, 0, none⟩), .func (.func f) #[] #[], .int .i64 (a : Nat), .func (.func fi) #[] capI] w fun e w' => StP W B (d ++ DS (cat (ks.map kl)) lo) w e w' := by
  have hkz := hk.kz
  have HFK := Lib.hid (FromK.of c3 hs)
  have HKID := Lib.hid (fun w' (hb : Below W.heap.size W w') => nkid_any w' b s k (ks.map kb) (a : Nat) (Below.keeps hb _ _ c3) (hs.below hb))
  have HRT := Lib.hid (look_kid_rt (a := a) hn)
  have HINNER := Lib.hid HIN
  have HD := Lib.hid (And.intro hi (And.intro hN (And.intro ha hW)))
  have HKD := Lib.hid (And.intro hk (And.intro hkz (And.intro hlo hDS)))
  have HALLx := Lib.hid (fun (x : Nat × Nat × List En) (hx : x ∈ ks) (w' : World) (d' : List Ch) (hi' : InvT W B d' w') (hl : d'.length + x.2.2.length ≤ 10000) => dAll_any W w' B k (some x.2.1) x.2.2 d' f g hf hW (hn x hx) k1 k16 hi' hl)
  have hbx : Below w.heap.size w (w.alloc (.cells #[.func (.func 149) #[] #[.pointer (some ⟨B, 0, none⟩)]] 236)) := (by repeat (first | exact Below.refl _ _ | (refine Below.drew ?_) | (refine below_drewN' ?_ _) | (refine below_alloc' ?_ _) | (refine Below.setCell ?_ (by first | exact Nat.le_refl _ | (simp; done) | (simp; omega)) _)))
  obtain ⟨sb, hsb⟩ : ∃ sb, w.heap.size = sb := ⟨_, rfl⟩
  have HSB := Lib.hid (show sb ≠ B from fun e => by
    have := lt_of_block (Exists.choose_spec (InvT.blkB hi))
    omega)
  have HS00 := Lib.hid (alloc_blk w (.cells #[.func (.func 149) #[] #[.pointer (some ⟨B, 0, none⟩)]] 236))
  have HI0 := Lib.hid (hi.step hbx)
  have HK0 := Lib.hid (show Kp B w _ from Kp.of hbx)
  clear hf hDS hn hlo hi hN HIN hk hkz hs ha hW k1 k16 hbx
  go_enter Tryz.func210, Tryz.ntmps210
  go_wp2_with fail
  rw [hsb] at HS00
  clear hsb
  generalize w.alloc (.cells #[.func (.func 149) #[] #[.pointer (some ⟨B, 0, none⟩)]] 236) = w1 at *
  have HS0 := Lib.hid HS00.out
  refine (HFK.out.zero _ HI0.out.bel).mono ?_
  rintro e w2 ⟨rfl, hb2⟩
  have HI2 := Lib.hid (And.intro (HI0.out.step hb2) (Kp.of (B := B) hb2))
  clear hb2
  go_wp2_with fail
  have HS2 := Lib.hid (HI2.out.2.keep sb _ _ _ HS0.out HSB.out (by decide))
  clear HS00 HS0
  go_loopw [10, 11, 12] (fun tv av kv wr => ∃ (j : Nat) (th : Bool), j ≤ ks.length ∧ tv = .bool th ∧ av = frA (frO ks j) ∧ kv = frK (frO ks j) ∧ InvT W B (d ++ DS (cat ((ks.map kl).take j)) (thL th lo)) wr ∧ Kp B w2 wr ∧ (th = false → ∀ i (hi : i < ks.length), i < j → ks[i].1 < a) ∧ (th = true → ∀ i (hi : i < ks.length), j ≤ i → a < ks[i].1)) (fun _ av kv _ => kmu av kv)
  case atStart => exact ⟨0, false, Nat.zero_le _, rfl, rfl, rfl, by
    have e : DS (cat ((ks.map kl).take 0)) (thL false lo) = [] := by
      rw [thL_false]
      exact (HKD.out.2.2.2.one (Et.nil k)).trans rfl
    rw [e, List.append_nil]
    exact HI2.out.1, Kp.refl _ _, (fun _ i _ h => by omega), (fun h => by cases h)⟩
  case round =>
    obtain ⟨j, th, hj, rfl, rfl, rfl, hiv, hkp, hlt1, hlt2⟩ := hrel
    have HR := Lib.hid (And.intro hiv hkp)
    have hsblk := hkp.keep sb _ _ _ HS2.out HSB.out (by decide)
    have ksx := cell_of_one hsblk
    have hslx := lt_of_block hsblk
    clear hsblk
    by_cases hlt : j < ks.length
    · have hlk : j < (ks.map kl).length := by rw [List.length_map]; exact hlt
      have ekl : (ks.map kl)[j] = kl ks[j] := List.getElem_map ..
      have hcat := cat_take_succ (ks.map kl) j hlk
      have hroom := cat_room (ks.map kl) j hlk
      rw [ekl] at hcat hroom
      have e1 : (kl ks[j]).1 = ks[j].1 := rfl
      have e2 : (kl ks[j]).2 = ks[j].2.2 := rfl
      have hbx := HKD.out.2.1.bel _ (List.getElem_mem hlk)
      rw [ekl] at hbx
      rw [e1, e2] at hbx
      rw [e2] at hcat hroom
      have htk := (HKD.out.2.1.take j).et
      have htx := HKD.out.2.1.take_ahead j hbx (fun i hi hij => by have := HKD.out.2.1.lt hij hlk; rw [ekl] at this; exact this)
      have HNX := Lib.hid (HFK.out.next j hlt)
      have HMU := Lib.hid (HFK.out.mu j hlt)
      have HALL := Lib.hid (HALLx.out ks[j] (List.getElem_mem hlt))
      have hla := HFK.out.lt j hlt
      have hkl1 : kidOf ks[j].1 (ks.map kl) = ks[j].2.2 := look_kid HKD.out.1.asc (x := kl ks[j]) (List.mem_map_of_mem (List.getElem_mem hlt))
      have HNL := Lib.hid (show ks[j].2.2.length < (cat (ks.map kl)).length from by have := HKD.out.1.kid_lt (x := kl ks[j]) (List.mem_map_of_mem (List.getElem_mem hlt)); exact this)
      have hasc : ∀ i (hi : i < ks.length), j < i → ks[j].1 < ks[i].1 := fun i hi hij => by
        have := HKD.out.2.1.lt hij (show i < (ks.map kl).length by rw [List.length_map]; exact hi)
        rw [List.getElem_map, List.getElem_map] at this
        exact this
      have hasc2 : ∀ i (hi : i < ks.length), i < j → ks[i].1 < ks[j].1 := fun i hi hij => by
        have := HKD.out.2.1.lt hij hlk
        rw [List.getElem_map, List.getElem_map] at this
        exact this
      rw [frO_some hlt] at HMU ⊢
      obtain ⟨A, hA⟩ : ∃ A, ks[j].1 = A := ⟨_, rfl⟩
      obtain ⟨Bk, hB⟩ : ∃ Bk, ks[j].2.1 = Bk := ⟨_, rfl⟩
      obtain ⟨lx, hX⟩ : ∃ lx, ks[j].2.2 = lx := ⟨_, rfl⟩
      rw [hA] at HNX HMU hla hbx hkl1 ⊢
      rw [hB] at HALL HMU ⊢
      rw [hX] at HALL hcat hroom hbx htx hkl1 HNL
      simp only [hA] at hasc hasc2
      have HW := Lib.hid (show wrap64 ((A : Int) + 1) = (A : Int) + 1 by unfold wrap64; omega)
      rw [frA_some, frK_some]
      obtain ⟨D, hD⟩ : ∃ D, cat ((ks.map kl).take j) = D := ⟨_, rfl⟩
      rw [hD] at HR hcat htk htx hroom
      have hDN := HD.out.2.1
      have hloe := HKD.out.2.2.1.et
      have hds := HKD.out.2.2.2
      have hlD1 := hds.len htk (Et.nil k)
      have hlD2 := hds.len htk hloe
      rw [List.length_nil] at hlD1
      obtain ⟨Dn, hDn⟩ : ∃ n, D.length = n := ⟨_, rfl⟩
      rw [hDn] at hroom hlD1 hlD2
      cases th with
      | false =>
        have hr1 := hlt1 rfl
        rw [thL_false] at HR
        have LEN7 := Lib.hid (show (d ++ DS D []).length + lx.length ≤ 10000 from by rw [List.length_append]; omega)
        rcases Nat.lt_trichotomy A a with hc | hc | hc
        · have g1 : ¬ (A : Int) ≥ (a : Int) := by omega
          have g2 : ((A : Int) != (a : Int)) = true := by simp; omega
          have g3 : ¬ (A : Int) = (a : Int) := by omega
          have HEQ := Lib.hid (show d ++ DS (cat ((ks.map kl).take (j + 1))) (thL false lo) = d ++ DS D [] ++ lx.map g from by
            rw [hcat, thL_false]
            have := hds.app htk hbx.et (Et.nil k) (Et.nil k) htx (Ahead.nil_r _) (Ahead.nil_l _) (Ahead.nil_l _)
            rw [List.append_nil, hds.one hbx.et] at this
            rw [this, List.append_assoc])
          have HL1 := Lib.hid (show ∀ i (hi : i < ks.length), i < j + 1 → ks[i].1 < a from fun i hi hij => by
            by_cases e : i = j
            · subst e; rw [hA]; exact hc
            · exact hr1 i hi (by omega))
          clear hiv hkp hlt1 hlt2 hlk ekl hcat hroom e1 e2 hbx htk htx hla hkl1 hasc hasc2 hA hB hX hD hDN hloe hds hlD1 hlD2 hDn hr1 hc
          go_wp2_with fail
          refine (HALL.out _ _ (HR.out.1) LEN7.out).mono ?_
          rintro e w7 ⟨rfl, hi7, hk7⟩
          have HF7 := Lib.hid (And.intro hi7 ((HR.out.2).trans hk7))
          clear hi7 hk7
          go_wp2_with fail
          rw [HW.out]
          refine (HNX.out _ (InvT.bel (HF7.out.1))).mono ?_
          rintro e w9 ⟨rfl, hb9⟩
          have HB9 := Lib.hid hb9
          clear hb9
          go_wp2_with fail
          go_roundw
          case rel => exact ⟨j + 1, false, by omega, rfl, rfl, rfl, by rw [HEQ.out]; exact InvT.step (HF7.out.1) HB9.out, (HF7.out.2).trans (Kp.of HB9.out), fun _ => HL1.out, (fun h => by cases h)⟩
          case measure => exact HMU.out
        · have hc' := hc.symm
          subst hc'
          have g1 : (a : Int) ≥ (a : Int) := by omega
          have g2 : ((a : Int) != (a : Int)) = false := by simp
          have HKL := Lib.hid (show (kidOf a (ks.map kl)).length < (cat (ks.map kl)).length from by rw [hkl1]; exact HNL.out)
          have LEN5 := Lib.hid (show (d ++ DS D []).length + (kidOf a (ks.map kl)).length + lo.length ≤ 10000 from by rw [List.length_append, hkl1]; omega)
          have HEQ := Lib.hid (show d ++ DS (cat ((ks.map kl).take (j + 1))) (thL true lo) = d ++ DS D [] ++ DS (kidOf a (ks.map kl)) lo from by
            rw [hcat, thL_true, hkl1]
            have := hds.app htk hbx.et (Et.nil k) hloe htx (by exact hD ▸ HKD.out.2.1.take_ahead j HKD.out.2.2.1 (fun i hi hij => by have := hasc2 i (by rw [List.length_map] at hi; exact hi) hij; rw [List.getElem_map]; exact this)) (Ahead.nil_l _) (Ahead.nil_l _)
            rw [List.nil_append] at this
            rw [this, List.append_assoc])
          have HL2 := Lib.hid (show ∀ i (hi : i < ks.length), j + 1 ≤ i → a < ks[i].1 from fun i hi hij => by have := hasc i hi (by omega); omega)
          clear hiv hkp hlt1 hlt2 hlk ekl hcat hroom e1 e2 hbx htk htx hla hkl1 hasc hasc2 hA hB hX hD hDN hloe hds hlD1 hlD2 hDn hr1 hc
          go_wp2_with fail
          refine (HKID.out _ (InvT.bel HR.out.1)).mono ?_
          rintro e w5 ⟨rfl, hb5⟩
          have HB5 := Lib.hid hb5
          clear hb5
          obtain ⟨q5, hq5⟩ := pv_ex (lookI (ks.map kb) (a : Nat))
          have HIN5 := Lib.hid (HINNER.out _ _ w5 _ HRT.out HKL.out (HR.out.1.step HB5.out) ((HK0.out.trans HI2.out.2).trans (HR.out.2.trans (Kp.of HB5.out))) LEN5.out)
          rw [hq5] at HIN5 ⊢
          clear hq5
          go_wp2_with fail
          refine HIN5.out.mono ?_
          rintro e w6 ⟨rfl, hi6, hk6⟩
          have HR6 := Lib.hid (And.intro hi6 ((HR.out.2.trans (Kp.of HB5.out)).trans hk6))
          clear hi6 hk6
          have hsblk6 := HR6.out.2.keep sb _ _ _ HS2.out HSB.out (by decide)
          have ks6 := cell_of_one hsblk6
          have hsl6 := lt_of_block hsblk6
          clear hsblk6
          go_wp2_with fail
          rw [HW.out]
          refine (HNX.out _ (InvT.bel (HR6.out.1))).mono ?_
          rintro e w9 ⟨rfl, hb9⟩
          have HB9 := Lib.hid hb9
          clear hb9
          go_wp2_with fail
          go_roundw
          case rel => exact ⟨j + 1, true, by omega, rfl, rfl, rfl, by rw [HEQ.out]; exact InvT.step (HR6.out.1) HB9.out, (HR6.out.2).trans (Kp.of HB9.out), (fun h => by cases h), fun _ => HL2.out⟩
          case measure => exact HMU.out
        · have g1 : (A : Int) ≥ (a : Int) := by omega
          have g2 : ((A : Int) != (a : Int)) = true := by simp; omega
          have g3 : ¬ (A : Int) = (a : Int) := by omega
          have hk0 : kidOf a (ks.map kl) = [] := kidOf_none fun x hx => by
            obtain ⟨y, hy, rfl⟩ := List.mem_map.1 hx
            obtain ⟨i, hi, rfl⟩ := List.mem_iff_getElem.1 hy
            show ks[i].1 ≠ a
            rcases Nat.lt_trichotomy i j with h | h | h
            · have := hr1 i hi h; omega
            · subst h; omega
            · have := hasc i hi h; omega
          have HKL := Lib.hid (show (kidOf a (ks.map kl)).length < (cat (ks.map kl)).length from by rw [hk0]; have := HNL.out; simp; omega)
          have LEN5 := Lib.hid (show (d ++ DS D []).length + (kidOf a (ks.map kl)).length + lo.length ≤ 10000 from by rw [List.length_append, hk0, List.length_nil]; omega)
          have hlo2 := hds.len (Et.nil k) hloe
          have LEN8 := Lib.hid (show (d ++ DS D [] ++ DS (kidOf a (ks.map kl)) lo).length + lx.length ≤ 10000 from by rw [List.length_append, List.length_append, hk0]; simp only [List.length_nil] at hlo2; omega)
          have HEQ := Lib.hid (show d ++ DS (cat ((ks.map kl).take (j + 1))) (thL true lo) = d ++ DS D [] ++ DS (kidOf a (ks.map kl)) lo ++ lx.map g from by
            rw [hcat, thL_true, hk0]
            have hal := HKD.out.2.2.1.ahead hbx hc
            have hDl : Ahead D lo := hD ▸ HKD.out.2.1.take_ahead j HKD.out.2.2.1 (fun i hi hij => by have := hr1 i (by rw [List.length_map] at hi; exact hi) hij; rw [List.getElem_map]; exact this)
            have t1 := hds.app htk hbx.et (Et.nil k) hloe htx hDl (Ahead.nil_l _) (Ahead.nil_l _)
            have t2 := hds.app (Et.nil k) hbx.et hloe (Et.nil k) (Ahead.nil_l _) (Ahead.nil_l _) hal (Ahead.nil_r _)
            rw [List.nil_append] at t1
            rw [List.nil_append, List.append_nil, hds.one hbx.et] at t2
            rw [t1, t2]
            simp only [List.append_assoc])
          have HL2 := Lib.hid (show ∀ i (hi : i < ks.length), j + 1 ≤ i → a < ks[i].1 from fun i hi hij => by have := hasc i hi (by omega); omega)
          clear LEN7
          have LEN7 := Lib.hid LEN8.out
          clear hiv hkp hlt1 hlt2 hlk ekl hcat hroom e1 e2 hbx htk htx hla hkl1 hasc hasc2 hA hB hX hD hDN hloe hds hlD1 hlD2 hDn hr1 hc hk0 hlo2
          go_wp2_with fail
          refine (HKID.out _ (InvT.bel HR.out.1)).mono ?_
          rintro e w5 ⟨rfl, hb5⟩
          have HB5 := Lib.hid hb5
          clear hb5
          obtain ⟨q5, hq5⟩ := pv_ex (lookI (ks.map kb) (a : Nat))
          have HIN5 := Lib.hid (HINNER.out _ _ w5 _ HRT.out HKL.out (HR.out.1.step HB5.out) ((HK0.out.trans HI2.out.2).trans (HR.out.2.trans (Kp.of HB5.out))) LEN5.out)
          rw [hq5] at HIN5 ⊢
          clear hq5
          go_wp2_with fail
          refine HIN5.out.mono ?_
          rintro e w6 ⟨rfl, hi6, hk6⟩
          have HR6 := Lib.hid (And.intro hi6 ((HR.out.2.trans (Kp.of HB5.out)).trans hk6))
          clear hi6 hk6
          have hsblk6 := HR6.out.2.keep sb _ _ _ HS2.out HSB.out (by decide)
          have ks6 := cell_of_one hsblk6
          have hsl6 := lt_of_block hsblk6
          clear hsblk6
          go_wp2_with fail
          refine (HALL.out _ _ (HR6.out.1) LEN7.out).mono ?_
          rintro e w7 ⟨rfl, hi7, hk7⟩
          have HF7 := Lib.hid (And.intro hi7 ((HR6.out.2).trans hk7))
          clear hi7 hk7
          go_wp2_with fail
          rw [HW.out]
          refine (HNX.out _ (InvT.bel (HF7.out.1))).mono ?_
          rintro e w9 ⟨rfl, hb9⟩
          have HB9 := Lib.hid hb9
          clear hb9
          go_wp2_with fail
          go_roundw
          case rel => exact ⟨j + 1, true, by omega, rfl, rfl, rfl, by rw [HEQ.out]; exact InvT.step (HF7.out.1) HB9.out, (HF7.out.2).trans (Kp.of HB9.out), (fun h => by cases h), fun _ => HL2.out⟩
          case measure => exact HMU.out
      | true =>
        have hr2 := hlt2 rfl j hlt (Nat.le_refl _)
        rw [hA] at hr2
        have g1 : (A : Int) ≥ (a : Int) := by omega
        have g2 : ((A : Int) != (a : Int)) = true := by simp; omega
        have g3 : ¬ (A : Int) = (a : Int) := by omega
        rw [thL_true] at HR
        have LEN7 := Lib.hid (show (d ++ DS D lo).length + lx.length ≤ 10000 from by rw [List.length_append]; omega)
        have HEQ := Lib.hid (show d ++ DS (cat ((ks.map kl).take (j + 1))) (thL true lo) = d ++ DS D lo ++ lx.map g from by
          rw [hcat, thL_true]
          have := hds.app htk hbx.et hloe (Et.nil k) htx (Ahead.nil_r _) (HKD.out.2.2.1.ahead hbx hr2) (Ahead.nil_r _)
          rw [List.append_nil, hds.one hbx.et] at this
          rw [this, List.append_assoc])
        have HL2 := Lib.hid (show ∀ i (hi : i < ks.length), j + 1 ≤ i → a < ks[i].1 from fun i hi hij => hlt2 rfl i hi (by omega))
        clear hiv hkp hlt1 hlt2 hlk ekl hcat hroom e1 e2 hbx htk htx hla hkl1 hasc hasc2 hA hB hX hD hDN hloe hds hlD1 hlD2 hDn hr2
        go_wp2_with fail
        refine (HALL.out _ _ (HR.out.1) LEN7.out).mono ?_
        rintro e w7 ⟨rfl, hi7, hk7⟩
        have HF7 := Lib.hid (And.intro hi7 ((HR.out.2).trans hk7))
        clear hi7 hk7
        go_wp2_with fail
        rw [HW.out]
        refine (HNX.out _ (InvT.bel (HF7.out.1))).mono ?_
        rintro e w9 ⟨rfl, hb9⟩
        have HB9 := Lib.hid hb9
        clear hb9
        go_wp2_with fail
        go_roundw
        case rel => exact ⟨j + 1, true, by omega, rfl, rfl, rfl, by rw [HEQ.out]; exact InvT.step (HF7.out.1) HB9.out, (HF7.out.2).trans (Kp.of HB9.out), (fun h => by cases h), fun _ => HL2.out⟩
        case measure => exact HMU.out
    · rw [frO_none hlt, frA_none, frK_none]
      have e : (ks.map kl).take j = ks.map kl := List.take_of_length_le (by rw [List.length_map]; omega)
      rw [e] at HR
      cases th with
      | true =>
        rw [thL_true] at HR
        clear hiv hkp hlt1 hlt2 e
        go_wp2_with fail
        go_end0
        exact ⟨rfl, HR.out.1, (HK0.out.trans HI2.out.2).trans HR.out.2⟩
      | false =>
        have hr1 := hlt1 rfl
        rw [thL_false] at HR
        have hds := HKD.out.2.2.2
        have hce := HKD.out.2.1.et
        have hloe := HKD.out.2.2.1.et
        have hl1 := hds.len hce (Et.nil k)
        have HEQ := Lib.hid (show d ++ DS (cat (ks.map kl)) [] ++ DS [] lo = d ++ DS (cat (ks.map kl)) lo from by
          have hal : Ahead (cat (ks.map kl)) lo := by
            have := HKD.out.2.1.take_ahead j HKD.out.2.2.1 (fun i hi hij => by have := hr1 i (by rw [List.length_map] at hi; exact hi) hij; rw [List.getElem_map]; exact this)
            rw [e] at this
            exact this
          have := hds.app hce (Et.nil k) (Et.nil k) hloe (Ahead.nil_r _) hal (Ahead.nil_l _) (Ahead.nil_l _)
          rw [List.append_nil, List.nil_append] at this
          rw [this, List.append_assoc])
        have HIN5 := Lib.hid (HINNER.out none [] wr (d ++ DS (cat (ks.map kl)) []) rfl (List.length_pos_iff.2 HKD.out.1.cat_ne) HR.out.1 ((HK0.out.trans HI2.out.2).trans HR.out.2) (by rw [List.length_append]; have := HD.out.2.1; simp only [List.length_nil] at hl1 ⊢; omega))
        rw [pv_none] at HIN5
        clear hiv hkp hlt1 hlt2 e hr1 hds hce hloe hl1
        go_wp2_with fail
        refine HIN5.out.mono ?_
        rintro e w6 ⟨rfl, hi6, hk6⟩
        have HR6 := Lib.hid (And.intro hi6 (HR.out.2.trans hk6))
        clear hi6 hk6
        go_wp2_with fail
        go_end0
        exact ⟨rfl, by rw [← HEQ.out]; exact HR6.out.1, (HK0.out.trans HI2.out.2).trans HR6.out.2⟩
end Go.Proofs.YtdkomhmciihkiaaGreat
/-! DifD -/
namespace Go.Proofs.YtdkomhmciihkiaaGreat
open Go.RowKit
set_option linter.unusedVariables false
set_option linter.unusedSimpArgs false
set_option maxRecDepth 100000

theorem fromI_at {l : List (Nat × Nat)} {t i : Nat} (h1 : ∀ j (hj : j < l.length), j < i → l[j].1 < t) (h2 : ∀ j (hj : j < l.length), i ≤ j → t ≤ l[j].1) : fromI l (t : Nat) = l[i]? := by
  induction l generalizing i with
  | nil => rfl
  | cons x l ih =>
    cases i with
    | zero =>
      have := h2 0 (by simp) (Nat.le_refl _)
      rw [fromI_hit (by simp only [List.getElem_cons_zero] at this; omega)]
      rfl
    | succ i =>
      have := h1 0 (by simp) (by omega)
      rw [fromI_skip (by simp only [List.getElem_cons_zero] at this; omega), ih (i := i) (fun j hj hij => by have := h1 (j + 1) (by simpa using hj) (by omega); simpa using this) (fun j hj hij => by have := h2 (j + 1) (by simpa using hj) (by omega); simpa using this)]
      rfl
theorem chg_one_one (p : List Nat) (x y : Nat) {k : Nat} (hp : p.length = k) (ho : ∀ c ∈ p, c < 2 ^ 64) : changesL [⟨p, x⟩] [⟨p, y⟩] = if x = y then [] else [⟨p, true, true, x, y⟩] := by
  have e1 := Et.one x hp ho
  have e2 := Et.one y hp ho
  refine Od.ext (key := Ch.key) (chg_asc e1 e2) (by split <;> simp [Od.Asc]) fun n => ?_
  rw [chg_look e1 e2, Od.look_cons, Od.look_cons, Od.look_nil]
  show chgE (if pkey p = n then _ else _) (if pkey p = n then _ else _) = _
  by_cases hn : pkey p = n
  · rw [if_pos hn, if_pos hn]
    by_cases hxy : x = y
    · rw [if_pos hxy]; simp [chgE, hxy, Od.look_nil]
    · rw [if_neg hxy, Od.look_cons, if_pos (show (⟨p, true, true, x, y⟩ : Ch).key = n from hn)]; simp [chgE, hxy]
  · rw [if_neg hn, if_neg hn]
    by_cases hxy : x = y
    · rw [if_pos hxy]; rfl
    · rw [if_neg hxy, Od.look_cons, if_neg (show ¬ (⟨p, true, true, x, y⟩ : Ch).key = n from hn)]; rfl
/-- at the label: so many kids of both are done -/
structure EvI (W : World) (B k n : Nat) (pre : List Nat) (ka kb' : List (Nat × Nat × List En)) (d : List Ch) (w1 w' : World) (t i j : Nat) : Prop where
  inv : InvT W B (d ++ changesL (cat ((ka.map kl).take i)) (cat ((kb'.map kl).take j))) w'
  kp : Kp B w1 w'
  il : i ≤ ka.length
  jl : j ≤ kb'.length
  a1 : ∀ q (h : q < ka.length), q < i → ka[q].1 < t
  a2 : ∀ q (h : q < ka.length), i ≤ q → t ≤ ka[q].1
  b1 : ∀ q (h : q < kb'.length), q < j → kb'[q].1 < t
  b2 : ∀ q (h : q < kb'.length), j ≤ q → t ≤ kb'[q].1
theorem EvI.bel {W : World} {B k n : Nat} {pre : List Nat} {ka kb' : List (Nat × Nat × List En)} {d : List Ch} {w1 w' w'' : World} {t i j : Nat} (h : EvI W B k n pre ka kb' d w1 w' t i j) (hb : Below w'.heap.size w' w'') : EvI W B k n pre ka kb' d w1 w'' t i j :=
  ⟨h.inv.step hb, h.kp.trans (Kp.of hb), h.il, h.jl, h.a1, h.a2, h.b1, h.b2⟩
theorem kz_lt {k n : Nat} {pre : List Nat} {ks : List (Nat × Nat × List En)} (h : Kz k n pre (ks.map kl)) {i j : Nat} (hij : i < j) (hj : j < ks.length) : (ks[i]'(by omega)).1 < ks[j].1 := by
  have := h.lt hij (show j < (ks.map kl).length by rw [List.length_map]; exact hj)
  rw [List.getElem_map, List.getElem_map] at this
  exact this
theorem kz_ahead {k n a : Nat} {pre : List Nat} {ks : List (Nat × Nat × List En)} (h : Kz k n pre (ks.map kl)) (i : Nat) {m : List En} (hm : Below1 k n pre a m) (hl : ∀ q (h : q < ks.length), q < i → ks[q].1 < a) : Ahead (cat ((ks.map kl).take i)) m :=
  h.take_ahead i hm fun q hq hqi => by have := hl q (by rw [List.length_map] at hq; exact hq) hqi; rw [List.getElem_map]; exact this
theorem kz_bel {k n : Nat} {pre : List Nat} {ks : List (Nat × Nat × List En)} (h : Kz k n pre (ks.map kl)) {i : Nat} (hi : i < ks.length) : Below1 k n pre ks[i].1 ks[i].2.2 := by
  have := h.bel (kl ks[i]) (List.mem_map_of_mem (List.getElem_mem hi))
  exact this
theorem cat_snoc {ks : List (Nat × Nat × List En)} {i : Nat} (hi : i < ks.length) : cat ((ks.map kl).take (i + 1)) = cat ((ks.map kl).take i) ++ ks[i].2.2 := by
  have := cat_take_succ (ks.map kl) i (by rw [List.length_map]; exact hi)
  rw [List.getElem_map] at this
  exact this
theorem cat_room' {ks : List (Nat × Nat × List En)} {i : Nat} (hi : i < ks.length) : (cat ((ks.map kl).take i)).length + ks[i].2.2.length ≤ (cat (ks.map kl)).length := by
  have := cat_room (ks.map kl) i (by rw [List.length_map]; exact hi)
  rw [List.getElem_map] at this
  exact this
theorem cat_take_le (L : List (Nat × List En)) (i : Nat) : (cat (L.take i)).length ≤ (cat L).length := by
  have h : cat L = cat (L.take i) ++ cat (L.drop i) := by
    conv => lhs; rw [← List.take_append_drop i L]
    unfold cat
    rw [List.flatMap_append]
  rw [h, List.length_append]
  omega
section
variable {W : World} {B k n : Nat} {pre : List Nat} {ka kb' : List (Nat × Nat × List En)} {d : List Ch} {w1 w' w'' : World} {t i j : Nat}
theorem EvI.left (h : EvI W B k n pre ka kb' d w1 w' t i j) (za : Kz k n pre (ka.map kl)) (zb : Kz k n pre (kb'.map kl)) (hi : i < ka.length) (hj : ∀ hj : j < kb'.length, ka[i].1 < kb'[j].1)
    (hv : InvT W B (d ++ changesL (cat ((ka.map kl).take i)) (cat ((kb'.map kl).take j)) ++ changesL ka[i].2.2 []) w'') (hk : Kp B w1 w'') : EvI W B k n pre ka kb' d w1 w'' (ka[i].1 + 1) (i + 1) j := by
  have hx := kz_bel za hi
  have e := chg_append (za.take i).et hx.et (zb.take j).et (Et.nil k) (kz_ahead za i hx fun q h1 h2 => by have := kz_lt za h2 hi; omega) (Ahead.nil_r _) (kz_ahead zb j hx fun q h1 h2 => by have := h.b1 q h1 h2; have := h.a2 i hi (Nat.le_refl _); omega) (Ahead.nil_r _)
  rw [List.append_nil] at e
  refine ⟨by rw [cat_snoc hi, e, ← List.append_assoc]; exact hv, hk, by omega, h.jl, fun q h1 h2 => ?_, fun q h1 h2 => ?_, fun q h1 h2 => ?_, fun q h1 h2 => ?_⟩
  · by_cases e : q = i
    · subst e; omega
    · have := kz_lt za (show q < i by omega) hi; omega
  · have := kz_lt za (show i < q by omega) h1; omega
  · have := h.b1 q h1 h2; have := h.a2 i hi (Nat.le_refl _); omega
  · by_cases e : q = j
    · subst e; have := hj h1; omega
    · have := kz_lt zb (show j < q by omega) h1; have := hj (by omega); omega
theorem EvI.right (h : EvI W B k n pre ka kb' d w1 w' t i j) (za : Kz k n pre (ka.map kl)) (zb : Kz k n pre (kb'.map kl)) (hj : j < kb'.length) (hi : ∀ hi : i < ka.length, kb'[j].1 < ka[i].1)
    (hv : InvT W B (d ++ changesL (cat ((ka.map kl).take i)) (cat ((kb'.map kl).take j)) ++ changesL [] kb'[j].2.2) w'') (hk : Kp B w1 w'') : EvI W B k n pre ka kb' d w1 w'' (kb'[j].1 + 1) i (j + 1) := by
  have hx := kz_bel zb hj
  have e := chg_append (za.take i).et (Et.nil k) (zb.take j).et hx.et (Ahead.nil_r _) (kz_ahead za i hx fun q h1 h2 => by have := h.a1 q h1 h2; have := h.b2 j hj (Nat.le_refl _); omega) (Ahead.nil_r _) (kz_ahead zb j hx fun q h1 h2 => by have := kz_lt zb h2 hj; omega)
  rw [List.append_nil] at e
  refine ⟨by rw [cat_snoc hj, e, ← List.append_assoc]; exact hv, hk, h.il, by omega, fun q h1 h2 => ?_, fun q h1 h2 => ?_, fun q h1 h2 => ?_, fun q h1 h2 => ?_⟩
  · have := h.a1 q h1 h2; have := h.b2 j hj (Nat.le_refl _); omega
  · by_cases e : q = i
    · subst e; have := hi h1; omega
    · have := kz_lt za (show i < q by omega) h1; have := hi (by omega); omega
  · by_cases e : q = j
    · subst e; omega
    · have := kz_lt zb (show q < j by omega) hj; omega
  · have := kz_lt zb (show j < q by omega) h1; omega
theorem EvI.both (h : EvI W B k n pre ka kb' d w1 w' t i j) (za : Kz k n pre (ka.map kl)) (zb : Kz k n pre (kb'.map kl)) (hi : i < ka.length) (hj : j < kb'.length) (he : ka[i].1 = kb'[j].1)
    (hv : InvT W B (d ++ changesL (cat ((ka.map kl).take i)) (cat ((kb'.map kl).take j)) ++ changesL ka[i].2.2 kb'[j].2.2) w'') (hk : Kp B w1 w'') : EvI W B k n pre ka kb' d w1 w'' (ka[i].1 + 1) (i + 1) (j + 1) := by
  have hx := kz_bel za hi
  have hy := kz_bel zb hj
  have ha := h.a2 i hi (Nat.le_refl _)
  have e := chg_append (za.take i).et hx.et (zb.take j).et hy.et (kz_ahead za i hx fun q h1 h2 => by have := h.a1 q h1 h2; omega) (kz_ahead za i hy fun q h1 h2 => by have := h.a1 q h1 h2; omega) (kz_ahead zb j hx fun q h1 h2 => by have := h.b1 q h1 h2; omega) (kz_ahead zb j hy fun q h1 h2 => by have := h.b1 q h1 h2; omega)
  refine ⟨by rw [cat_snoc hi, cat_snoc hj, e, ← List.append_assoc]; exact hv, hk, by omega, by omega, fun q h1 h2 => ?_, fun q h1 h2 => ?_, fun q h1 h2 => ?_, fun q h1 h2 => ?_⟩
  · by_cases e : q = i
    · subst e; omega
    · have := kz_lt za (show q < i by omega) hi; omega
  · have := kz_lt za (show i < q by omega) h1; omega
  · by_cases e : q = j
    · subst e; omega
    · have := kz_lt zb (show q < j by omega) hj; omega
  · have := kz_lt zb (show j < q by omega) h1; omega
end
end Go.Proofs.YtdkomhmciihkiaaGreat
/-! SrtE -/
namespace Go.Proofs.YtdkomhmciihkiaaGreat
open Go.RowKit
set_option linter.unusedVariables false
set_option linter.unusedSimpArgs false
set_option maxRecDepth 100000

theorem wrap_succ {i : Nat} (hb : i ≤ 100000) : wrap64 ((i : Int) + 1) = ((i + 1 : Nat) : Int) := by unfold wrap64; omega
end Go.Proofs.YtdkomhmciihkiaaGreat
/-! DifE -/
namespace Go.Proofs.YtdkomhmciihkiaaGreat
open Go.RowKit
set_option linter.unusedVariables false
set_option linter.unusedSimpArgs false
set_option maxRecDepth 100000

set_option maxHeartbeats 8000000 in
theorem even_node (W w : World) (B k n ba bb sa sc : Nat) (pre : List Nat) (ka kc : List (Nat × Nat × List En)) (d : List Ch) (hW : W.heap.size ≤ B)
    (c3 : W.cell? ⟨ba, 3, none⟩ = some (.pointer (some ⟨sa, 0, none⟩))) (hsa : SlR W sa k (ka.map kb)) (hka : Kd k n pre (ka.map kl)) (hna : ∀ x ∈ ka, Nd W k x.2.1 x.2.2)
    (c4 : W.cell? ⟨bb, 3, none⟩ = some (.pointer (some ⟨sc, 0, none⟩))) (hsc : SlR W sc k (kc.map kb)) (hkc : Kd k n pre (kc.map kl)) (hnc : ∀ x ∈ kc, Nd W k x.2.1 x.2.2)
    (hi : InvT W B d w) (hN : d.length + (cat (ka.map kl)).length + (cat (kc.map kl)).length ≤ 10000)
    (ih : ∀ (ra rb : Option Nat) (lx ly : List En) (w' : World) (d' : List Ch), RtN W k ra lx → RtN W k rb ly → lx.length + ly.length < (cat (ka.map kl)).length + (cat (kc.map kl)).length → InvT W B d' w' → d'.length + lx.length + ly.length ≤ 10000 → Calls Tryz.prog 150 #[SV B, pv ra, pv rb] w' fun e w'' => StP W B (d' ++ changesL lx ly) w' e w'') :
    Calls Tryz.prog 209 #[SV B, .pointer (some ⟨ba, 0, none⟩), .pointer (some ⟨bb, 0, none⟩)] w fun e w' => StP W B (d ++ changesL (cat (ka.map kl)) (cat (kc.map kl))) w e w' := by
  have HKZ := Lib.hid (And.intro hka.kz hkc.kz)
  have HNA := Lib.hid hna
  have HNC := Lib.hid hnc
  have HIH := Lib.hid ih
  have HD := Lib.hid hN
  have HFA := Lib.hid (fun (i t : Nat) (w' : World) (hb : Below W.heap.size W w') (h1 : ∀ q (h : q < ka.length), q < i → ka[q].1 < t) (h2 : ∀ q (h : q < ka.length), i ≤ q → t ≤ ka[q].1) => (show Calls Tryz.prog 178 #[.pointer (some ⟨ba, 0, none⟩), .int .i64 (t : Nat)] w' fun e w'' => e = .returned (.tuple #[frA (frO ka i), frK (frO ka i)]) ∧ Below w'.heap.size w' w'' from by
    have := nfrom_any w' ba sa k (ka.map kb) (t : Nat) (Below.keeps hb _ _ c3) (hsa.below hb)
    rw [nfromV_eq, fromI_at (i := i) (fun q h hq => by have := h1 q (by simpa using h) hq; rw [List.getElem_map]; exact this) (fun q h hq => by have := h2 q (by simpa using h) hq; rw [List.getElem_map]; exact this)] at this
    exact this))
  have HFC := Lib.hid (fun (i t : Nat) (w' : World) (hb : Below W.heap.size W w') (h1 : ∀ q (h : q < kc.length), q < i → kc[q].1 < t) (h2 : ∀ q (h : q < kc.length), i ≤ q → t ≤ kc[q].1) => (show Calls Tryz.prog 178 #[.pointer (some ⟨bb, 0, none⟩), .int .i64 (t : Nat)] w' fun e w'' => e = .returned (.tuple #[frA (frO kc i), frK (frO kc i)]) ∧ Below w'.heap.size w' w'' from by
    have := nfrom_any w' bb sc k (kc.map kb) (t : Nat) (Below.keeps hb _ _ c4) (hsc.below hb)
    rw [nfromV_eq, fromI_at (i := i) (fun q h hq => by have := h1 q (by simpa using h) hq; rw [List.getElem_map]; exact this) (fun q h hq => by have := h2 q (by simpa using h) hq; rw [List.getElem_map]; exact this)] at this
    exact this))
  have HLT := Lib.hid (And.intro (FromK.of c3 hsa).lt (FromK.of c4 hsc).lt)
  have HSZ := Lib.hid (show (∀ i (h : i < ka.length), ka[i].2.2.length + ([] : List En).length < (cat (ka.map kl)).length + (cat (kc.map kl)).length) ∧ (∀ j (h : j < kc.length), ([] : List En).length + kc[j].2.2.length < (cat (ka.map kl)).length + (cat (kc.map kl)).length) ∧ (∀ i j (h : i < ka.length) (h' : j < kc.length), ka[i].2.2.length + kc[j].2.2.length < (cat (ka.map kl)).length + (cat (kc.map kl)).length) from by
    have h1 : ∀ i (h : i < ka.length), ka[i].2.2.length < (cat (ka.map kl)).length := fun i h => hka.kid_lt (x := kl ka[i]) (List.mem_map_of_mem (List.getElem_mem h))
    have h2 : ∀ i (h : i < kc.length), kc[i].2.2.length < (cat (kc.map kl)).length := fun i h => hkc.kid_lt (x := kl kc[i]) (List.mem_map_of_mem (List.getElem_mem h))
    refine ⟨fun i h => ?_, fun j h => ?_, fun i j h h' => ?_⟩
    · have := h1 i h; simp only [List.length_nil]; omega
    · have := h2 j h; simp only [List.length_nil]; omega
    · have := h1 i h; have := h2 j h'; omega)
  have HRM := Lib.hid (show ∀ i j, (cat ((ka.map kl).take i)).length ≤ (cat (ka.map kl)).length ∧ (cat ((kc.map kl).take j)).length ≤ (cat (kc.map kl)).length from fun i j => ⟨cat_take_le _ _, cat_take_le _ _⟩)
  have hbx : Below w.heap.size w (w.alloc (.cells #[.func (.func 149) #[] #[.pointer (some ⟨B, 0, none⟩)]] 236)) := (by repeat (first | exact Below.refl _ _ | (refine Below.drew ?_) | (refine below_drewN' ?_ _) | (refine below_alloc' ?_ _) | (refine Below.setCell ?_ (by first | exact Nat.le_refl _ | (simp; done) | (simp; omega)) _)))
  obtain ⟨sb, hsb⟩ : ∃ sb, w.heap.size = sb := ⟨_, rfl⟩
  have HSB := Lib.hid (show sb ≠ B from fun e => by
    have := lt_of_block (Exists.choose_spec (InvT.blkB hi))
    omega)
  have HS00 := Lib.hid (alloc_blk w (.cells #[.func (.func 149) #[] #[.pointer (some ⟨B, 0, none⟩)]] 236))
  have HI0 := Lib.hid (hi.step hbx)
  have HK0 := Lib.hid (show Kp B w _ from Kp.of hbx)
  have HEN := Lib.hid (fun w' (hb : Below W.heap.size W w') => ent_node w' ba sa (Below.keeps hb _ _ c3))
  clear hW c3 hsa hka hna c4 hsc hkc hnc hi hN ih hbx
  go_enter Tryz.func209, Tryz.ntmps209
  go_wp2_with fail
  rw [hsb] at HS00
  clear hsb
  generalize w.alloc (.cells #[.func (.func 149) #[] #[.pointer (some ⟨B, 0, none⟩)]] 236) = w0 at *
  have HS1 := Lib.hid HS00.out
  refine wp_scope_jumps2 0 (fun a' w' => ∃ (t i j : Nat) (u4 u5 u6 u7 u8 u9 u11 u12 u13 u14 u15 u16 u17 u18 u19 u20 u21 u22 u23 u24 u25 u26 u27 u28 u29 u30 u31 u32 u33 u34 u35 u36 u37 u38 u39 u40 u41 u42 u43 u44 u45 u46 u47 u48 u49 u50 u51 u52 u53 u54 u55 u56 u57 u58 u59 u60 u61 u62 u63 u64 u65 u66 u67 u68 u69 u70 u71 u72 u73 u74 u75 u76 u77 u78 u79 u80 u81 u82 u83 u84 u85 u86 u87 u88 u89 u90 u91 u92 u93 u94 u95 : Value), a' = { tmps := #[SV B, .pointer (some ⟨ba, 0, none⟩), .pointer (some ⟨bb, 0, none⟩), .pointer (some ⟨sb, 0, none⟩), u4, u5, u6, u7, u8, u9, .int .i64 (t : Nat), u11, u12, u13, u14, u15, u16, u17, u18, u19, u20, u21, u22, u23, u24, u25, u26, u27, u28, u29, u30, u31, u32, u33, u34, u35, u36, u37, u38, u39, u40, u41, u42, u43, u44, u45, u46, u47, u48, u49, u50, u51, u52, u53, u54, u55, u56, u57, u58, u59, u60, u61, u62, u63, u64, u65, u66, u67, u68, u69, u70, u71, u72, u73, u74, u75, u76, u77, u78, u79, u80, u81, u82, u83, u84, u85, u86, u87, u88, u89, u90, u91, u92, u93, u94, u95], defers := [] } ∧ EvI W B k n pre ka kc d w0 w' t i j) (fun a' _ => 65537 - (intOf (a'.tmps.getD 10 undef)).toNat) rfl ?_ ?_
  · intro a' w' hJ
    obtain ⟨t, i, j, u4, u5, u6, u7, u8, u9, u11, u12, u13, u14, u15, u16, u17, hJ⟩ := hJ
    obtain ⟨u18, u19, u20, u21, u22, u23, u24, u25, u26, u27, u28, u29, u30, u31, u32, u33, hJ⟩ := hJ
    obtain ⟨u34, u35, u36, u37, u38, u39, u40, u41, u42, u43, u44, u45, u46, u47, u48, u49, hJ⟩ := hJ
    obtain ⟨u50, u51, u52, u53, u54, u55, u56, u57, u58, u59, u60, u61, u62, u63, u64, u65, hJ⟩ := hJ
    obtain ⟨u66, u67, u68, u69, u70, u71, u72, u73, u74, u75, u76, u77, u78, u79, u80, u81, hJ⟩ := hJ
    obtain ⟨u82, u83, u84, u85, u86, u87, u88, u89, u90, u91, u92, u93, u94, u95, hJ⟩ := hJ
    obtain ⟨rfl, hJ⟩ := hJ
    obtain hJ := hJ
    have HR := Lib.hid hJ
    have HAT := Lib.hid (And.intro hJ.a1 (And.intro hJ.a2 (And.intro hJ.b1 hJ.b2)))
    by_cases hi : i < ka.length
    · by_cases hj : j < kc.length
      · obtain ⟨A, hA⟩ : ∃ A, ka[i].1 = A := ⟨_, rfl⟩
        obtain ⟨Ba, hB⟩ : ∃ Ba, ka[i].2.1 = Ba := ⟨_, rfl⟩
        have hAt := hJ.a2 i hi (Nat.le_refl _)
        have hAl := HLT.out.1 i hi
        rw [hA] at hAt hAl
        obtain ⟨A2, hA2⟩ : ∃ A, kc[j].1 = A := ⟨_, rfl⟩
        obtain ⟨Bc, hB2⟩ : ∃ Bc, kc[j].2.1 = Bc := ⟨_, rfl⟩
        have hAt2 := hJ.b2 j hj (Nat.le_refl _)
        have hAl2 := HLT.out.2 j hj
        rw [hA2] at hAt2 hAl2
        rcases Nat.lt_trichotomy A A2 with hc | hc | hc
        · have g1 : (A : Int) < (A2 : Int) := by omega
          have HNXT := Lib.hid (show ∀ w'', InvT W B (d ++ changesL (cat ((ka.map kl).take i)) (cat ((kc.map kl).take j)) ++ changesL (ka[i].2.2) ([])) w'' → Kp B w0 w'' → EvI W B k n pre ka kc d w0 w'' (A + 1) (i + 1) (j) from fun w'' hv hk => by
            have := HR.out.left HKZ.out.1 HKZ.out.2 hi (fun _ => by omega) hv hk
            rw [hA] at this
            exact this)
          have HBO := Lib.hid (show ∀ w'', InvT W B (d ++ changesL (cat ((ka.map kl).take i)) (cat ((kc.map kl).take j))) w'' → Kp B w0 w'' → Calls Tryz.prog 150 #[SV B, .pointer (some ⟨Ba, 0, none⟩), .pointer none] w'' fun e w3 => StP W B (d ++ changesL (cat ((ka.map kl).take i)) (cat ((kc.map kl).take j)) ++ changesL (ka[i].2.2) ([])) w'' e w3 from fun w'' hv hk => by
            have := HIH.out (some ka[i].2.1) (none) (ka[i].2.2) ([]) w'' _ (HNA.out ka[i] (List.getElem_mem hi)) (rfl) (HSZ.out.1 i hi) hv (by
              have h1 := changes_len (HKZ.out.1.take i).et (HKZ.out.2.take j).et
              have h2 := HD.out
              have r1 := cat_room' hi
              have q1 := HRM.out i j
              rw [List.length_append]
              (try simp only [List.length_nil])
              omega)
            simp only [pv_some, pv_none, hB] at this
            exact this)
          have HW := Lib.hid (show wrap64 ((A : Int) + 1) = ((A + 1 : Nat) : Int) from wrap_succ (by omega))
          have HMU := Lib.hid (show 65537 - (intOf (.int .i64 ((A + 1 : Nat) : Int))).toNat < 65537 - (intOf (.int .i64 (t : Nat))).toNat from by rw [intOf_nat, intOf_nat]; omega)
          clear hAt hAl hAt2 hAl2 hc
          clear hJ
          go_wp2_with fail
          refine (HFA.out _ _ _ HR.out.inv.bel HAT.out.1 HAT.out.2.1).mono ?_
          rintro e w5 ⟨rfl, hb5⟩
          have HR1 := Lib.hid (HR.out.bel hb5)
          clear hb5
          rw [frO_some hi, frA_some, frK_some]
          rw [hA, hB]
          go_wp2_with fail
          refine (HFC.out _ _ _ HR1.out.inv.bel HAT.out.2.2.1 HAT.out.2.2.2).mono ?_
          rintro e w6 ⟨rfl, hb6⟩
          have HR2 := Lib.hid (HR1.out.bel hb6)
          clear hb6
          rw [frO_some hj, frA_some, frK_some]
          rw [hA2, hB2]
          have hsblk := HR2.out.kp.keep sb _ _ _ HS1.out HSB.out (by decide)
          have ksx := cell_of_one hsblk
          have hslx := lt_of_block hsblk
          clear hsblk
          clear hA hB hA2 hB2
          go_wp2_with fail
          refine (HBO.out _ HR2.out.inv HR2.out.kp).mono ?_
          rintro e w7 ⟨rfl, hi7, hk7⟩
          have HF := Lib.hid (HNXT.out _ hi7 (HR2.out.kp.trans hk7))
          clear hi7 hk7
          go_wp2_with fail
          go_step3
          rw [HW.out]
          refine ⟨rfl, ⟨A + 1, i + 1, j, _, _, _, _, _, _, _, _, _, _, _, _, _, _, _, _, _, _, _, _, _, _, _, _, _, _, _, _, _, _, _, _, _, _, _, _, _, _, _, _, _, _, _, _, _, _, _, _, _, _, _, _, _, _, _, _, _, _, _, _, _, _, _, _, _, _, _, _, _, _, _, _, _, _, _, _, _, _, _, _, _, _, _, _, _, _, _, _, _, _, _, rfl, HF.out⟩, ?_⟩
          exact HMU.out
        · have g1 : ¬ (A : Int) < (A2 : Int) := by omega
          have g2 : ¬ (A2 : Int) < (A : Int) := by omega
          have HNXT := Lib.hid (show ∀ w'', InvT W B (d ++ changesL (cat ((ka.map kl).take i)) (cat ((kc.map kl).take j)) ++ changesL (ka[i].2.2) (kc[j].2.2)) w'' → Kp B w0 w'' → EvI W B k n pre ka kc d w0 w'' (A + 1) (i + 1) (j + 1) from fun w'' hv hk => by
            have := HR.out.both HKZ.out.1 HKZ.out.2 hi hj (by omega) hv hk
            rw [hA] at this
            exact this)
          have HBO := Lib.hid (show ∀ w'', InvT W B (d ++ changesL (cat ((ka.map kl).take i)) (cat ((kc.map kl).take j))) w'' → Kp B w0 w'' → Calls Tryz.prog 150 #[SV B, .pointer (some ⟨Ba, 0, none⟩), .pointer (some ⟨Bc, 0, none⟩)] w'' fun e w3 => StP W B (d ++ changesL (cat ((ka.map kl).take i)) (cat ((kc.map kl).take j)) ++ changesL (ka[i].2.2) (kc[j].2.2)) w'' e w3 from fun w'' hv hk => by
            have := HIH.out (some ka[i].2.1) (some kc[j].2.1) (ka[i].2.2) (kc[j].2.2) w'' _ (HNA.out ka[i] (List.getElem_mem hi)) (HNC.out kc[j] (List.getElem_mem hj)) (HSZ.out.2.2 i j hi hj) hv (by
              have h1 := changes_len (HKZ.out.1.take i).et (HKZ.out.2.take j).et
              have h2 := HD.out
              have r1 := cat_room' hi
              have r2 := cat_room' hj
              have q1 := HRM.out i j
              rw [List.length_append]
              (try simp only [List.length_nil])
              omega)
            simp only [pv_some, pv_none, hB, hB2] at this
            exact this)
          have HW := Lib.hid (show wrap64 ((A : Int) + 1) = ((A + 1 : Nat) : Int) from wrap_succ (by omega))
          have HMU := Lib.hid (show 65537 - (intOf (.int .i64 ((A + 1 : Nat) : Int))).toNat < 65537 - (intOf (.int .i64 (t : Nat))).toNat from by rw [intOf_nat, intOf_nat]; omega)
          clear hAt hAl hAt2 hAl2 hc
          clear hJ
          go_wp2_with fail
          refine (HFA.out _ _ _ HR.out.inv.bel HAT.out.1 HAT.out.2.1).mono ?_
          rintro e w5 ⟨rfl, hb5⟩
          have HR1 := Lib.hid (HR.out.bel hb5)
          clear hb5
          rw [frO_some hi, frA_some, frK_some]
          rw [hA, hB]
          go_wp2_with fail
          refine (HFC.out _ _ _ HR1.out.inv.bel HAT.out.2.2.1 HAT.out.2.2.2).mono ?_
          rintro e w6 ⟨rfl, hb6⟩
          have HR2 := Lib.hid (HR1.out.bel hb6)
          clear hb6
          rw [frO_some hj, frA_some, frK_some]
          rw [hA2, hB2]
          have hsblk := HR2.out.kp.keep sb _ _ _ HS1.out HSB.out (by decide)
          have ksx := cell_of_one hsblk
          have hslx := lt_of_block hsblk
          clear hsblk
          clear hA hB hA2 hB2
          go_wp2_with fail
          refine (HBO.out _ HR2.out.inv HR2.out.kp).mono ?_
          rintro e w7 ⟨rfl, hi7, hk7⟩
          have HF := Lib.hid (HNXT.out _ hi7 (HR2.out.kp.trans hk7))
          clear hi7 hk7
          go_wp2_with fail
          go_step3
          rw [HW.out]
          refine ⟨rfl, ⟨A + 1, i + 1, j + 1, _, _, _, _, _, _, _, _, _, _, _, _, _, _, _, _, _, _, _, _, _, _, _, _, _, _, _, _, _, _, _, _, _, _, _, _, _, _, _, _, _, _, _, _, _, _, _, _, _, _, _, _, _, _, _, _, _, _, _, _, _, _, _, _, _, _, _, _, _, _, _, _, _, _, _, _, _, _, _, _, _, _, _, _, _, _, _, _, _, _, _, rfl, HF.out⟩, ?_⟩
          exact HMU.out
        · have g1 : ¬ (A : Int) < (A2 : Int) := by omega
          have g2 : (A2 : Int) < (A : Int) := by omega
          have HNXT := Lib.hid (show ∀ w'', InvT W B (d ++ changesL (cat ((ka.map kl).take i)) (cat ((kc.map kl).take j)) ++ changesL ([]) (kc[j].2.2)) w'' → Kp B w0 w'' → EvI W B k n pre ka kc d w0 w'' (A2 + 1) (i) (j + 1) from fun w'' hv hk => by
            have := HR.out.right HKZ.out.1 HKZ.out.2 hj (fun _ => by omega) hv hk
            rw [hA2] at this
            exact this)
          have HBO := Lib.hid (show ∀ w'', InvT W B (d ++ changesL (cat ((ka.map kl).take i)) (cat ((kc.map kl).take j))) w'' → Kp B w0 w'' → Calls Tryz.prog 150 #[SV B, .pointer none, .pointer (some ⟨Bc, 0, none⟩)] w'' fun e w3 => StP W B (d ++ changesL (cat ((ka.map kl).take i)) (cat ((kc.map kl).take j)) ++ changesL ([]) (kc[j].2.2)) w'' e w3 from fun w'' hv hk => by
            have := HIH.out (none) (some kc[j].2.1) ([]) (kc[j].2.2) w'' _ (rfl) (HNC.out kc[j] (List.getElem_mem hj)) (HSZ.out.2.1 j hj) hv (by
              have h1 := changes_len (HKZ.out.1.take i).et (HKZ.out.2.take j).et
              have h2 := HD.out
              have r2 := cat_room' hj
              have q1 := HRM.out i j
              rw [List.length_append]
              (try simp only [List.length_nil])
              omega)
            simp only [pv_some, pv_none, hB2] at this
            exact this)
          have HW := Lib.hid (show wrap64 ((A2 : Int) + 1) = ((A2 + 1 : Nat) : Int) from wrap_succ (by omega))
          have HMU := Lib.hid (show 65537 - (intOf (.int .i64 ((A2 + 1 : Nat) : Int))).toNat < 65537 - (intOf (.int .i64 (t : Nat))).toNat from by rw [intOf_nat, intOf_nat]; omega)
          clear hAt hAl hAt2 hAl2 hc
          clear hJ
          go_wp2_with fail
          refine (HFA.out _ _ _ HR.out.inv.bel HAT.out.1 HAT.out.2.1).mono ?_
          rintro e w5 ⟨rfl, hb5⟩
          have HR1 := Lib.hid (HR.out.bel hb5)
          clear hb5
          rw [frO_some hi, frA_some, frK_some]
          rw [hA, hB]
          go_wp2_with fail
          refine (HFC.out _ _ _ HR1.out.inv.bel HAT.out.2.2.1 HAT.out.2.2.2).mono ?_
          rintro e w6 ⟨rfl, hb6⟩
          have HR2 := Lib.hid (HR1.out.bel hb6)
          clear hb6
          rw [frO_some hj, frA_some, frK_some]
          rw [hA2, hB2]
          have hsblk := HR2.out.kp.keep sb _ _ _ HS1.out HSB.out (by decide)
          have ksx := cell_of_one hsblk
          have hslx := lt_of_block hsblk
          clear hsblk
          clear hA hB hA2 hB2
          go_wp2_with fail
          refine (HBO.out _ HR2.out.inv HR2.out.kp).mono ?_
          rintro e w7 ⟨rfl, hi7, hk7⟩
          have HF := Lib.hid (HNXT.out _ hi7 (HR2.out.kp.trans hk7))
          clear hi7 hk7
          go_wp2_with fail
          go_step3
          rw [HW.out]
          refine ⟨rfl, ⟨A2 + 1, i, j + 1, _, _, _, _, _, _, _, _, _, _, _, _, _, _, _, _, _, _, _, _, _, _, _, _, _, _, _, _, _, _, _, _, _, _, _, _, _, _, _, _, _, _, _, _, _, _, _, _, _, _, _, _, _, _, _, _, _, _, _, _, _, _, _, _, _, _, _, _, _, _, _, _, _, _, _, _, _, _, _, _, _, _, _, _, _, _, _, _, _, _, _, rfl, HF.out⟩, ?_⟩
          exact HMU.out
      · obtain ⟨A, hA⟩ : ∃ A, ka[i].1 = A := ⟨_, rfl⟩
        obtain ⟨Ba, hB⟩ : ∃ Ba, ka[i].2.1 = Ba := ⟨_, rfl⟩
        have hAt := hJ.a2 i hi (Nat.le_refl _)
        have hAl := HLT.out.1 i hi
        rw [hA] at hAt hAl
        have HNXT := Lib.hid (show ∀ w'', InvT W B (d ++ changesL (cat ((ka.map kl).take i)) (cat ((kc.map kl).take j)) ++ changesL (ka[i].2.2) ([])) w'' → Kp B w0 w'' → EvI W B k n pre ka kc d w0 w'' (A + 1) (i + 1) (j) from fun w'' hv hk => by
          have := HR.out.left HKZ.out.1 HKZ.out.2 hi (fun h => absurd h hj) hv hk
          rw [hA] at this
          exact this)
        have HBO := Lib.hid (show ∀ w'', InvT W B (d ++ changesL (cat ((ka.map kl).take i)) (cat ((kc.map kl).take j))) w'' → Kp B w0 w'' → Calls Tryz.prog 150 #[SV B, .pointer (some ⟨Ba, 0, none⟩), .pointer none] w'' fun e w3 => StP W B (d ++ changesL (cat ((ka.map kl).take i)) (cat ((kc.map kl).take j)) ++ changesL (ka[i].2.2) ([])) w'' e w3 from fun w'' hv hk => by
          have := HIH.out (some ka[i].2.1) (none) (ka[i].2.2) ([]) w'' _ (HNA.out ka[i] (List.getElem_mem hi)) (rfl) (HSZ.out.1 i hi) hv (by
            have h1 := changes_len (HKZ.out.1.take i).et (HKZ.out.2.take j).et
            have h2 := HD.out
            have r1 := cat_room' hi
            have q1 := HRM.out i j
            rw [List.length_append]
            (try simp only [List.length_nil])
            omega)
          simp only [pv_some, pv_none, hB] at this
          exact this)
        have HW := Lib.hid (show wrap64 ((A : Int) + 1) = ((A + 1 : Nat) : Int) from wrap_succ (by omega))
        have HMU := Lib.hid (show 65537 - (intOf (.int .i64 ((A + 1 : Nat) : Int))).toNat < 65537 - (intOf (.int .i64 (t : Nat))).toNat from by rw [intOf_nat, intOf_nat]; omega)
        clear hAt hAl
        clear hJ
        go_wp2_with fail
        refine (HFA.out _ _ _ HR.out.inv.bel HAT.out.1 HAT.out.2.1).mono ?_
        rintro e w5 ⟨rfl, hb5⟩
        have HR1 := Lib.hid (HR.out.bel hb5)
        clear hb5
        rw [frO_some hi, frA_some, frK_some]
        rw [hA, hB]
        go_wp2_with fail
        refine (HFC.out _ _ _ HR1.out.inv.bel HAT.out.2.2.1 HAT.out.2.2.2).mono ?_
        rintro e w6 ⟨rfl, hb6⟩
        have HR2 := Lib.hid (HR1.out.bel hb6)
        clear hb6
        rw [frO_none hj, frA_none, frK_none]
        have hsblk := HR2.out.kp.keep sb _ _ _ HS1.out HSB.out (by decide)
        have ksx := cell_of_one hsblk
        have hslx := lt_of_block hsblk
        clear hsblk
        clear hA hB hj
        go_wp2_with fail
        refine (HBO.out _ HR2.out.inv HR2.out.kp).mono ?_
        rintro e w7 ⟨rfl, hi7, hk7⟩
        have HF := Lib.hid (HNXT.out _ hi7 (HR2.out.kp.trans hk7))
        clear hi7 hk7
        go_wp2_with fail
        go_step3
        rw [HW.out]
        refine ⟨rfl, ⟨A + 1, i + 1, j, _, _, _, _, _, _, _, _, _, _, _, _, _, _, _, _, _, _, _, _, _, _, _, _, _, _, _, _, _, _, _, _, _, _, _, _, _, _, _, _, _, _, _, _, _, _, _, _, _, _, _, _, _, _, _, _, _, _, _, _, _, _, _, _, _, _, _, _, _, _, _, _, _, _, _, _, _, _, _, _, _, _, _, _, _, _, _, _, _, _, _, rfl, HF.out⟩, ?_⟩
        exact HMU.out
    · by_cases hj : j < kc.length
      · obtain ⟨A2, hA2⟩ : ∃ A, kc[j].1 = A := ⟨_, rfl⟩
        obtain ⟨Bc, hB2⟩ : ∃ Bc, kc[j].2.1 = Bc := ⟨_, rfl⟩
        have hAt2 := hJ.b2 j hj (Nat.le_refl _)
        have hAl2 := HLT.out.2 j hj
        rw [hA2] at hAt2 hAl2
        have HNXT := Lib.hid (show ∀ w'', InvT W B (d ++ changesL (cat ((ka.map kl).take i)) (cat ((kc.map kl).take j)) ++ changesL ([]) (kc[j].2.2)) w'' → Kp B w0 w'' → EvI W B k n pre ka kc d w0 w'' (A2 + 1) (i) (j + 1) from fun w'' hv hk => by
          have := HR.out.right HKZ.out.1 HKZ.out.2 hj (fun h => absurd h hi) hv hk
          rw [hA2] at this
          exact this)
        have HBO := Lib.hid (show ∀ w'', InvT W B (d ++ changesL (cat ((ka.map kl).take i)) (cat ((kc.map kl).take j))) w'' → Kp B w0 w'' → Calls Tryz.prog 150 #[SV B, .pointer none, .pointer (some ⟨Bc, 0, none⟩)] w'' fun e w3 => StP W B (d ++ changesL (cat ((ka.map kl).take i)) (cat ((kc.map kl).take j)) ++ changesL ([]) (kc[j].2.2)) w'' e w3 from fun w'' hv hk => by
          have := HIH.out (none) (some kc[j].2.1) ([]) (kc[j].2.2) w'' _ (rfl) (HNC.out kc[j] (List.getElem_mem hj)) (HSZ.out.2.1 j hj) hv (by
            have h1 := changes_len (HKZ.out.1.take i).et (HKZ.out.2.take j).et
            have h2 := HD.out
            have r2 := cat_room' hj
            have q1 := HRM.out i j
            rw [List.length_append]
            (try simp only [List.length_nil])
            omega)
          simp only [pv_some, pv_none, hB2] at this
          exact this)
        have HW := Lib.hid (show wrap64 ((A2 : Int) + 1) = ((A2 + 1 : Nat) : Int) from wrap_succ (by omega))
        have HMU := Lib.hid (show 65537 - (intOf (.int .i64 ((A2 + 1 : Nat) : Int))).toNat < 65537 - (intOf (.int .i64 (t : Nat))).toNat from by rw [intOf_nat, intOf_nat]; omega)
        clear hAt2 hAl2
        clear hJ
        go_wp2_with fail
        refine (HFA.out _ _ _ HR.out.inv.bel HAT.out.1 HAT.out.2.1).mono ?_
        rintro e w5 ⟨rfl, hb5⟩
        have HR1 := Lib.hid (HR.out.bel hb5)
        clear hb5
        rw [frO_none hi, frA_none, frK_none]
        go_wp2_with fail
        refine (HFC.out _ _ _ HR1.out.inv.bel HAT.out.2.2.1 HAT.out.2.2.2).mono ?_
        rintro e w6 ⟨rfl, hb6⟩
        have HR2 := Lib.hid (HR1.out.bel hb6)
        clear hb6
        rw [frO_some hj, frA_some, frK_some]
        rw [hA2, hB2]
        have hsblk := HR2.out.kp.keep sb _ _ _ HS1.out HSB.out (by decide)
        have ksx := cell_of_one hsblk
        have hslx := lt_of_block hsblk
        clear hsblk
        clear hA2 hB2 hi
        go_wp2_with fail
        refine (HBO.out _ HR2.out.inv HR2.out.kp).mono ?_
        rintro e w7 ⟨rfl, hi7, hk7⟩
        have HF := Lib.hid (HNXT.out _ hi7 (HR2.out.kp.trans hk7))
        clear hi7 hk7
        go_wp2_with fail
        go_step3
        rw [HW.out]
        refine ⟨rfl, ⟨A2 + 1, i, j + 1, _, _, _, _, _, _, _, _, _, _, _, _, _, _, _, _, _, _, _, _, _, _, _, _, _, _, _, _, _, _, _, _, _, _, _, _, _, _, _, _, _, _, _, _, _, _, _, _, _, _, _, _, _, _, _, _, _, _, _, _, _, _, _, _, _, _, _, _, _, _, _, _, _, _, _, _, _, _, _, _, _, _, _, _, _, _, _, _, _, _, _, rfl, HF.out⟩, ?_⟩
        exact HMU.out
      · have e1 : (ka.map kl).take i = ka.map kl := List.take_of_length_le (by rw [List.length_map]; omega)
        have e2 : (kc.map kl).take j = kc.map kl := List.take_of_length_le (by rw [List.length_map]; omega)
        have HE := Lib.hid (And.intro e1 e2)
        clear e1 e2
        clear hJ
        go_wp2_with fail
        refine (HFA.out _ _ _ HR.out.inv.bel HAT.out.1 HAT.out.2.1).mono ?_
        rintro e w5 ⟨rfl, hb5⟩
        have HR1 := Lib.hid (HR.out.bel hb5)
        clear hb5
        rw [frO_none hi, frA_none, frK_none]
        go_wp2_with fail
        refine (HFC.out _ _ _ HR1.out.inv.bel HAT.out.2.2.1 HAT.out.2.2.2).mono ?_
        rintro e w6 ⟨rfl, hb6⟩
        have HR2 := Lib.hid (HR1.out.bel hb6)
        clear hb6
        rw [frO_none hj, frA_none, frK_none]
        have hsblk := HR2.out.kp.keep sb _ _ _ HS1.out HSB.out (by decide)
        have ksx := cell_of_one hsblk
        have hslx := lt_of_block hsblk
        clear hsblk
        clear hi hj
        go_wp2_with fail
        simp only [Exit.jump]
        go_end0
        have := HR2.out.inv
        rw [HE.out.1, HE.out.2] at this
        exact ⟨rfl, this, HK0.out.trans HR2.out.kp⟩
  · intro Q' hR
    have hR := Lib.hid hR
    go_wp2_with fail
    refine (HEN.out _ HI0.out.bel).mono ?_
    rintro e wE ⟨rfl, hbE⟩
    have HIE := Lib.hid (And.intro (HI0.out.step hbE) (Kp.of (B := B) hbE))
    clear hbE
    go_wp2_with fail
    go_step3
    simp only [Exit.then]
    rename_i hK
    refine hK _ _ ?_
    refine hR.out _ _ ?_
    have e0 : changesL (cat ((ka.map kl).take 0)) (cat ((kc.map kl).take 0)) = [] := rfl
    have e1 := HIE.out.1.step (w' := wE.alloc (.cells #[.slice none 0 0, .int .u64 0] 35)) (by repeat (first | exact Below.refl _ _ | (refine Below.drew ?_) | (refine below_drewN' ?_ _) | (refine below_alloc' ?_ _) | (refine Below.setCell ?_ (by first | exact Nat.le_refl _ | (simp; done) | (simp; omega)) _)))
    have e2 := HIE.out.2.trans (Kp.of (B := B) (w' := wE.alloc (.cells #[.slice none 0 0, .int .u64 0] 35)) (by repeat (first | exact Below.refl _ _ | (refine Below.drew ?_) | (refine below_drewN' ?_ _) | (refine below_alloc' ?_ _) | (refine Below.setCell ?_ (by first | exact Nat.le_refl _ | (simp; done) | (simp; omega)) _))))
    exact ⟨0, 0, 0, _, _, _, _, _, _, _, _, _, _, _, _, _, _, _, _, _, _, _, _, _, _, _, _, _, _, _, _, _, _, _, _, _, _, _, _, _, _, _, _, _, _, _, _, _, _, _, _, _, _, _, _, _, _, _, _, _, _, _, _, _, _, _, _, _, _, _, _, _, _, _, _, _, _, _, _, _, _, _, _, _, _, _, _, _, _, _, _, _, _, _, rfl, ⟨by rw [e0, List.append_nil]; exact e1, e2, Nat.zero_le _, Nat.zero_le _, (fun q _ h => by omega), (fun q _ _ => Nat.zero_le _), (fun q _ h => by omega), (fun q _ _ => Nat.zero_le _)⟩⟩
end Go.Proofs.YtdkomhmciihkiaaGreat
/-! DifF -/
namespace Go.Proofs.YtdkomhmciihkiaaGreat
open Go.RowKit
set_option linter.unusedVariables false
set_option linter.unusedSimpArgs false
set_option maxRecDepth 100000

set_option maxHeartbeats 4000000 in
theorem even_leaf (W w : World) (B k ba bb x y : Nat) (p : List Nat) (d : List Ch) (hW : W.heap.size ≤ B) (ha : Hd W ba (-1) p x (.pointer none) (Sm.of x)) (hb : Hd W bb (-1) p y (.pointer none) (Sm.of y)) (hp : p.length = k) (ho : ∀ c ∈ p, c < 2 ^ 64) (k1 : 1 ≤ k) (k16 : k ≤ 16) (hi : InvT W B d w) (hN : d.length ≤ 10000) :
    Calls Tryz.prog 209 #[SV B, .pointer (some ⟨ba, 0, none⟩), .pointer (some ⟨bb, 0, none⟩)] w fun e w' => StP W B (d ++ changesL [⟨p, x⟩] [⟨p, y⟩]) w e w' := by
  have HEA := Lib.hid (fun w' (h : Below W.heap.size W w') => ent_leaf w' ba k x (-1) p (Sm.of x) (ha.keep h) hp k1 k16)
  have HEB := Lib.hid (fun w' (h : Below W.heap.size W w') => ent_leaf w' bb k y (-1) p (Sm.of y) (hb.keep h) hp k1 k16)
  have HCH := Lib.hid (chg_one_one p x y hp ho)
  have HTL := Lib.hid (fun (w' : World) (c : Ch) (u : Value) (h : InvT W B d w') (hu : PtNew w' u c.p) => dTell_any W w' B d c u hW h hu hN)
  have hbx : Below w.heap.size w (w.alloc (.cells #[.func (.func 149) #[] #[.pointer (some ⟨B, 0, none⟩)]] 236)) := (by repeat (first | exact Below.refl _ _ | (refine Below.drew ?_) | (refine below_drewN' ?_ _) | (refine below_alloc' ?_ _) | (refine Below.setCell ?_ (by first | exact Nat.le_refl _ | (simp; done) | (simp; omega)) _)))
  obtain ⟨sb, hsb⟩ : ∃ sb, w.heap.size = sb := ⟨_, rfl⟩
  have HS00 := Lib.hid (alloc_blk w (.cells #[.func (.func 149) #[] #[.pointer (some ⟨B, 0, none⟩)]] 236))
  have HI0 := Lib.hid (hi.step hbx)
  have HK0 := Lib.hid (show Kp B w _ from Kp.of hbx)
  clear hW ha hb hp ho k1 k16 hi hN hbx
  go_enter Tryz.func209, Tryz.ntmps209
  go_wp2_with fail
  rw [hsb] at HS00
  clear hsb
  generalize w.alloc (.cells #[.func (.func 149) #[] #[.pointer (some ⟨B, 0, none⟩)]] 236) = w0 at *
  refine wp_scope_straight ?_
  go_wp2_with fail
  refine (HEA.out _ HI0.out.bel).mono ?_
  rintro e w1 ⟨u1, rfl, hpt1, hb1⟩
  obtain ⟨A1, c1, rfl, _⟩ := RdU.point hpt1.rd
  have H1 := Lib.hid (And.intro hpt1 hb1)
  clear hpt1 hb1
  go_wp2_with fail
  have hbe : Below w1.heap.size w1 (w1.alloc (.cells #[.slice A1 p.length c1, .int .u64 (x : Nat)] 35)) := (by repeat (first | exact Below.refl _ _ | (refine Below.drew ?_) | (refine below_drewN' ?_ _) | (refine below_alloc' ?_ _) | (refine Below.setCell ?_ (by first | exact Nat.le_refl _ | (simp; done) | (simp; omega)) _)))
  have HB1 := Lib.hid hbe
  have HE1 := Lib.hid (alloc_blk w1 (.cells #[.slice A1 p.length c1, .int .u64 (x : Nat)] 35))
  have HI1 := Lib.hid ((HI0.out.step H1.out.2).step hbe)
  have HS1 := Lib.hid ((hbe.block sb (Nat.lt_of_lt_of_le (lt_of_block HS00.out) H1.out.2.size)).trans ((H1.out.2.block sb (lt_of_block HS00.out)).trans HS00.out))
  have HP1 := Lib.hid (H1.out.1.below hbe)
  have HK1 := Lib.hid ((HK0.out.trans (Kp.of (B := B) H1.out.2)).trans (Kp.of hbe))
  obtain ⟨e1, he1⟩ : ∃ e1, w1.heap.size = e1 := ⟨_, rfl⟩
  rw [he1] at HE1 ⊢
  clear hbe he1 HB1
  generalize w1.alloc (.cells #[.slice A1 p.length c1, .int .u64 (x : Nat)] 35) = w2 at *
  refine (HEB.out _ HI1.out.bel).mono ?_
  rintro e w3 ⟨u2, rfl, hpt2, hb2⟩
  obtain ⟨A2, c2, rfl, _⟩ := RdU.point hpt2.rd
  have ks := cell_of_one ((hb2.block sb (lt_of_block HS1.out)).trans HS1.out)
  have hq1 := (hb2.block e1 (lt_of_block HE1.out)).trans HE1.out
  have q0 : w3.cell? ⟨e1, 0, none⟩ = some (.slice A1 p.length c1) := by simp [World.cell?, hq1]
  have q1 : w3.cell? ⟨e1, 1, none⟩ = some (.int .u64 (x : Nat)) := by simp [World.cell?, hq1]
  have hle := lt_of_block hq1
  have hls := World.block_lt_of_cell? w3 _ ks
  have HI3 := Lib.hid (HI1.out.step hb2)
  have HP3 := Lib.hid (HP1.out.below hb2)
  have HK3 := Lib.hid (HK1.out.trans (Kp.of (B := B) hb2))
  clear hpt2 hb2 hq1
  by_cases hxy : x = y
  · have hxy2 : ((x : Int) != (y : Int)) = false := by simp [hxy]
    have HE := Lib.hid (show changesL [⟨p, x⟩] [⟨p, y⟩] = [] from by rw [HCH.out, if_pos hxy])
    subst hxy
    go_wp2_with fail
    simp only [Exit.noGoto]
    go_end0
    rw [HE.out, List.append_nil]
    exact ⟨rfl, HI3.out.step (by repeat (first | exact Below.refl _ _ | (refine Below.drew ?_) | (refine below_drewN' ?_ _) | (refine below_alloc' ?_ _) | (refine Below.setCell ?_ (by first | exact Nat.le_refl _ | (simp; done) | (simp; omega)) _))), HK3.out.trans (Kp.of (by repeat (first | exact Below.refl _ _ | (refine Below.drew ?_) | (refine below_drewN' ?_ _) | (refine below_alloc' ?_ _) | (refine Below.setCell ?_ (by first | exact Nat.le_refl _ | (simp; done) | (simp; omega)) _))))⟩
  · have hxy2 : ((x : Int) != (y : Int)) = true := by simp; omega
    have hxy3 : ¬ (x : Int) = (y : Int) := by omega
    have HE := Lib.hid (show changesL [⟨p, x⟩] [⟨p, y⟩] = [⟨p, true, true, x, y⟩] from by rw [HCH.out, if_neg hxy])
    clear hxy
    go_wp2_with fail
    refine (HTL.out _ ⟨p, true, true, x, y⟩ (.slice A1 p.length c1) (HI3.out.step (by repeat (first | exact Below.refl _ _ | (refine Below.drew ?_) | (refine below_drewN' ?_ _) | (refine below_alloc' ?_ _) | (refine Below.setCell ?_ (by first | exact Nat.le_refl _ | (simp; done) | (simp; omega)) _)))) (HP3.out.below (by repeat (first | exact Below.refl _ _ | (refine Below.drew ?_) | (refine below_drewN' ?_ _) | (refine below_alloc' ?_ _) | (refine Below.setCell ?_ (by first | exact Nat.le_refl _ | (simp; done) | (simp; omega)) _))))).mono ?_
    rintro e w5 ⟨rfl, hi5, hk5⟩
    have HF := Lib.hid (And.intro hi5 ((HK3.out.trans (Kp.of (B := B) (by repeat (first | exact Below.refl _ _ | (refine Below.drew ?_) | (refine below_drewN' ?_ _) | (refine below_alloc' ?_ _) | (refine Below.setCell ?_ (by first | exact Nat.le_refl _ | (simp; done) | (simp; omega)) _))))).trans hk5))
    clear hi5 hk5
    go_wp2_with fail
    simp only [Exit.noGoto]
    go_end0
    rw [HE.out]
    exact ⟨rfl, HF.out⟩
end Go.Proofs.YtdkomhmciihkiaaGreat
/-! NdU -/
namespace Go.Proofs.YtdkomhmciihkiaaGreat
open Go.RowKit
set_option linter.unusedVariables false

theorem point_uniq {w : World} {v : Value} {p q : List Nat} (h : RdU w v (pti p)) (g : RdU w v (pti q)) : p = q := by
  obtain ⟨A, c, rfl, hx⟩ := RdU.point h
  obtain ⟨A', c', e, hy⟩ := RdU.point g
  injection e with e1 e2 _
  subst e1
  refine List.ext_getElem e2 fun j h1 h2 => ?_
  obtain ⟨b, o, ha, hc⟩ := hx (by omega)
  obtain ⟨b', o', ha', hc'⟩ := hy (by omega)
  rw [ha] at ha'
  injection ha' with ha'
  injection ha' with e3 e4
  subst e3 e4
  have := (hc j h1).symm.trans (hc' j h2)
  injection this with this
  injection this with _ this
  exact Int.ofNat.inj this
theorem pv_inj {a b : Option Nat} (h : pv a = pv b) : a = b := by
  cases a with
  | none => cases b with
    | none => rfl
    | some y => simp [pv] at h
  | some x => cases b with
    | none => simp [pv] at h
    | some y => simp [pv] at h; rw [h]
theorem RdK.uniq {w : World} {v : Value} {l m : List Cl} (h : RdK w v l) (g : RdK w v m) : l = m := by
  obtain ⟨A, c, rfl, _, hx⟩ := h
  obtain ⟨A', c', e, _, hy⟩ := g
  injection e with e1 e2 _
  subst e1
  refine List.ext_getElem e2 fun j h1 h2 => ?_
  obtain ⟨b, o, ha, hc⟩ := hx (by omega)
  obtain ⟨b', o', ha', hc'⟩ := hy (by omega)
  rw [ha] at ha'
  injection ha' with ha'
  injection ha' with e3 e4
  subst e3 e4
  obtain ⟨a1, a2, a3⟩ := hc j h1
  obtain ⟨b1, b2, b3⟩ := hc' j h2
  have q1 := a1.symm.trans b1
  have q2 := a2.symm.trans b2
  have q3 := a3.symm.trans b3
  injection q1 with q1
  injection q1 with _ q1
  injection q2 with q2
  injection q3 with q3
  injection q3 with q3
  have q1 := Int.ofNat.inj q1
  have q2 := pv_inj q2
  cases h5 : l[j]
  cases h6 : m[j]
  rw [h5, h6] at q1 q2 q3
  simp only at q1 q2 q3
  rw [q1, q2, q3]
theorem SlR.uniq {w : World} {b k k' : Nat} {l m : List (Nat × Nat)} (h : SlR w b k l) (g : SlR w b k' m) : l = m := by
  have e0 := h.c0.symm.trans g.c0
  injection e0 with e0
  injection e0 with _ e0
  have e0 : k = k' := Int.ofNat.inj e0
  subst e0
  obtain ⟨v, h1, h2⟩ := h.c2
  obtain ⟨v', g1, g2⟩ := g.c2
  have e1 := h1.symm.trans g1
  injection e1 with e1
  subst e1
  have e2 := congrArg hasL (h2.uniq g2)
  rw [has_lay h.rw', has_lay g.rw'] at e2
  refine List.map_inj_right (f := takenC) (fun x y e => ?_) |>.1 e2
  unfold takenC at e
  injection e with e3 e4 _
  injection e4 with e4
  exact Prod.ext e3 e4
theorem Nd.uniq {w : World} {k : Nat} {b : Nat} {l : List En} (h : Nd w k b l) : ∀ {k' : Nat} {m : List En}, Nd w k' b m → l = m := by
  induction h with
  | leaf b p v h hp ho hv =>
    intro k' m g
    cases g with
    | leaf _ p' v' h' hp' ho' hv' =>
      obtain ⟨u, q1, q2⟩ := h.c1
      obtain ⟨u', q1', q2'⟩ := h'.c1
      have e1 := q1.symm.trans q1'
      injection e1 with e1
      subst e1
      have e2 := point_uniq q2 q2'
      have e3 := h.c2.symm.trans h'.c2
      injection e3 with e3
      injection e3 with _ e3
      have e3 : v = v' := Int.ofNat.inj e3
      rw [e2, e3]
    | node _ s n pre ks h' hs hkd hn =>
      have e1 := h.c3.symm.trans h'.c3
      injection e1 with e1
      injection e1 with e1
      cases e1
  | node b s n pre ks h hs hkd hn ih =>
    intro k' m g
    generalize hm : m = m' at g
    cases g with
    | leaf _ p' v' h' hp' ho' hv' =>
      have e1 := h.c3.symm.trans h'.c3
      injection e1 with e1
      injection e1 with e1
      cases e1
    | node _ s' n' pre' ks' h' hs' hkd' hn' =>
      subst hm
      have e1 := h.c3.symm.trans h'.c3
      injection e1 with e1
      injection e1 with e1
      injection e1 with e1
      injection e1 with e1
      subst e1
      have e2 := hs.uniq hs'
      have hl := congrArg List.length e2
      rw [List.length_map, List.length_map] at hl
      have e3 : ks.map kl = ks'.map kl := by
        refine List.ext_getElem (by rw [List.length_map, List.length_map]; exact hl) fun j h1 h2 => ?_
        rw [List.length_map] at h1 h2
        have e4 : (ks.map kb)[j]? = (ks'.map kb)[j]? := by rw [e2]
        rw [List.getElem?_map, List.getElem?_map, List.getElem?_eq_getElem h1, List.getElem?_eq_getElem h2] at e4
        simp only [Option.map_some, Option.some.injEq] at e4
        have e5 : ks[j].1 = ks'[j].1 := congrArg (fun x : Nat × Nat => x.1) e4
        have e6 : ks[j].2.1 = ks'[j].2.1 := congrArg (fun x : Nat × Nat => x.2) e4
        rw [List.getElem_map, List.getElem_map]
        have e7 := ih ks[j] (List.getElem_mem h1) (k' := k') (m := ks'[j].2.2) (by rw [e6]; exact hn' ks'[j] (List.getElem_mem h2))
        show (ks[j].1, ks[j].2.2) = (ks'[j].1, ks'[j].2.2)
        rw [e5, e7]
      rw [e3]
theorem RtN.uniq {w : World} {k k' : Nat} {r : Option Nat} {l m : List En} (h : RtN w k r l) (g : RtN w k' r m) : l = m := by
  cases r with
  | none => obtain rfl : l = [] := h; obtain rfl : m = [] := g; rfl
  | some b => exact Nd.uniq h g
end Go.Proofs.YtdkomhmciihkiaaGreat
/-! DifG -/
namespace Go.Proofs.YtdkomhmciihkiaaGreat
open Go.RowKit
set_option linter.unusedVariables false
set_option linter.unusedSimpArgs false
set_option maxRecDepth 100000

theorem both_same (W w : World) (B k : Nat) (r : Option Nat) (la lb : List En) (d : List Ch) (ha : RtN W k r la) (hb : RtN W k r lb) (hi : InvT W B d w) :
    Calls Tryz.prog 150 #[SV B, pv r, pv r] w fun e w' => StP W B (d ++ changesL la lb) w e w' := by
  obtain rfl : la = lb := ha.uniq hb
  have HE := Lib.hid (chg_self ha.et)
  have HI := Lib.hid hi
  have heq := fun w' (h : Below W.heap.size W w') => (show (binOp .eql 113 (pv r) (pv r)).run Tryz.prog w' = .ok (.bool true) w' from by have := root_eql (ha.below h) (ha.below h); rw [decide_eq_true rfl] at this; exact this)
  obtain ⟨q, hq⟩ := pv_ex r
  rw [hq] at heq ⊢
  have he := heq (((w.alloc (.cells #[.func (.func 149) #[] #[.pointer (some ⟨B, 0, none⟩)]] 236)).alloc (.cells #[.pointer q] 113)).alloc (.cells #[.pointer q] 113)) (hi.bel.trans (((by repeat (first | exact Below.refl _ _ | (refine Below.drew ?_) | (refine below_drewN' ?_ _) | (refine below_alloc' ?_ _) | (refine Below.setCell ?_ (by first | exact Nat.le_refl _ | (simp; done) | (simp; omega)) _))) : Below w.heap.size w _).mono hi.bel.size))
  clear heq ha hb hi hq
  go_enter Tryz.func150, Tryz.ntmps150
  go_wp2_with fail
  go_end0
  rw [HE.out, List.append_nil]
  exact ⟨rfl, HI.out.step (by repeat (first | exact Below.refl _ _ | (refine Below.drew ?_) | (refine below_drewN' ?_ _) | (refine below_alloc' ?_ _) | (refine Below.setCell ?_ (by first | exact Nat.le_refl _ | (simp; done) | (simp; omega)) _))), Kp.of (by repeat (first | exact Below.refl _ _ | (refine Below.drew ?_) | (refine below_drewN' ?_ _) | (refine below_alloc' ?_ _) | (refine Below.setCell ?_ (by first | exact Nat.le_refl _ | (simp; done) | (simp; omega)) _)))⟩
theorem both_come (W w : World) (B k b : Nat) (lb : List En) (d : List Ch) (hW : W.heap.size ≤ B) (k1 : 1 ≤ k) (k16 : k ≤ 16) (hb : Nd W k b lb) (hi : InvT W B d w) (hN : d.length + lb.length ≤ 10000) :
    Calls Tryz.prog 150 #[SV B, .pointer none, .pointer (some ⟨b, 0, none⟩)] w fun e w' => StP W B (d ++ changesL [] lb) w e w' := by
  have HE := Lib.hid (chg_come hb.et)
  have HI := Lib.hid hi
  have HA := Lib.hid (fun w' (h : InvT W B d w') => dAll_any W w' B k (some b) lb d _ _ as_come hW hb k1 k16 h hN)
  have he := fun w' => (show (binOp .eql 113 (.pointer none) (.pointer (some ⟨b, 0, none⟩))).run Tryz.prog w' = .ok (.bool false) w' from rfl)
  clear hb hi hW hN k1 k16
  go_enter Tryz.func150, Tryz.ntmps150
  go_wp2_with fail
  refine (HA.out _ (HI.out.step (by repeat (first | exact Below.refl _ _ | (refine Below.drew ?_) | (refine below_drewN' ?_ _) | (refine below_alloc' ?_ _) | (refine Below.setCell ?_ (by first | exact Nat.le_refl _ | (simp; done) | (simp; omega)) _))))).mono ?_
  rintro e w1 ⟨rfl, hi1, hk1⟩
  have HF := Lib.hid (And.intro hi1 ((Kp.of (B := B) ((by repeat (first | exact Below.refl _ _ | (refine Below.drew ?_) | (refine below_drewN' ?_ _) | (refine below_alloc' ?_ _) | (refine Below.setCell ?_ (by first | exact Nat.le_refl _ | (simp; done) | (simp; omega)) _))) : Below w.heap.size w _)).trans hk1))
  clear hi1 hk1
  go_wp2_with fail
  go_end0
  rw [HE.out]
  exact ⟨rfl, HF.out⟩
theorem both_gone (W w : World) (B k b : Nat) (la : List En) (d : List Ch) (hW : W.heap.size ≤ B) (k1 : 1 ≤ k) (k16 : k ≤ 16) (hb : Nd W k b la) (hi : InvT W B d w) (hN : d.length + la.length ≤ 10000) :
    Calls Tryz.prog 150 #[SV B, .pointer (some ⟨b, 0, none⟩), .pointer none] w fun e w' => StP W B (d ++ changesL la []) w e w' := by
  have HE := Lib.hid (chg_gone hb.et)
  have HI := Lib.hid hi
  have HA := Lib.hid (fun w' (h : InvT W B d w') => dAll_any W w' B k (some b) la d _ _ as_gone hW hb k1 k16 h hN)
  have he := fun w' => (show (binOp .eql 113 (.pointer (some ⟨b, 0, none⟩)) (.pointer none)).run Tryz.prog w' = .ok (.bool false) w' from rfl)
  clear hb hi hW hN k1 k16
  go_enter Tryz.func150, Tryz.ntmps150
  go_wp2_with fail
  refine (HA.out _ (HI.out.step (by repeat (first | exact Below.refl _ _ | (refine Below.drew ?_) | (refine below_drewN' ?_ _) | (refine below_alloc' ?_ _) | (refine Below.setCell ?_ (by first | exact Nat.le_refl _ | (simp; done) | (simp; omega)) _))))).mono ?_
  rintro e w1 ⟨rfl, hi1, hk1⟩
  have HF := Lib.hid (And.intro hi1 ((Kp.of (B := B) ((by repeat (first | exact Below.refl _ _ | (refine Below.drew ?_) | (refine below_drewN' ?_ _) | (refine below_alloc' ?_ _) | (refine Below.setCell ?_ (by first | exact Nat.le_refl _ | (simp; done) | (simp; omega)) _))) : Below w.heap.size w _)).trans hk1))
  clear hi1 hk1
  go_wp2_with fail
  go_end0
  rw [HE.out]
  exact ⟨rfl, HF.out⟩
end Go.Proofs.YtdkomhmciihkiaaGreat
/-! DifI -/
namespace Go.Proofs.YtdkomhmciihkiaaGreat
open Go.RowKit
set_option linter.unusedVariables false
set_option linter.unusedSimpArgs false
set_option maxRecDepth 100000

/-- both, of what is smaller -/
def BoIH (W : World) (B k N : Nat) : Prop := ∀ (ra rb : Option Nat) (lx ly : List En) (w' : World) (d' : List Ch), RtN W k ra lx → RtN W k rb ly → lx.length + ly.length < N → InvT W B d' w' → d'.length + lx.length + ly.length ≤ 10000 → Calls Tryz.prog 150 #[SV B, pv ra, pv rb] w' fun e w'' => StP W B (d' ++ changesL lx ly) w' e w''
theorem cov_eq {l : List En} {p : List Nat} {c : Bool} (h : cov l p = c) : c = true ↔ Zb.cutN p (lev l) = preL l := by
  rw [← h]; unfold cov; simp
theorem even_any (W w : World) (B k ba bb : Nat) (la lb : List En) (d : List Ch) (hW : W.heap.size ≤ B) (k1 : 1 ≤ k) (k16 : k ≤ 16) (ha : Nd W k ba la) (hb : Nd W k bb lb) (hlv : lev la = lev lb) (hcv : cov la (preL lb) = true) (hi : InvT W B d w) (hN : d.length + la.length + lb.length ≤ 10000)
    (ih : BoIH W B k (la.length + lb.length)) :
    Calls Tryz.prog 209 #[SV B, .pointer (some ⟨ba, 0, none⟩), .pointer (some ⟨bb, 0, none⟩)] w fun e w' => StP W B (d ++ changesL la lb) w e w' := by
  have hc := (cov_eq hcv).1 rfl
  cases ha with
  | leaf _ p x h hp ho hv =>
    generalize hm : lb = lb' at hb
    cases hb with
    | leaf _ q y h' hp' ho' hv' =>
      subst hm
      rw [lev_one, preL_one, preL_one, Zb.cutN_zero] at hc
      have hc : q = p := hc
      subst hc
      exact even_leaf W w B k ba bb x y q d hW h h' hp ho k1 k16 hi (by omega)
    | node _ s n pre ks h' hs hkd hn =>
      subst hm
      rw [lev_one, hkd.lev] at hlv
      omega
  | node _ s n pre ks h hs hkd hn =>
    generalize hm : lb = lb' at hb
    cases hb with
    | leaf _ q y h' hp' ho' hv' =>
      subst hm
      rw [lev_one, hkd.lev] at hlv
      omega
    | node _ s' n' pre' ks' h' hs' hkd' hn' =>
      subst hm
      rw [hkd.lev, hkd'.lev] at hlv
      have e : n' = n := by omega
      subst e
      have hq := hkd'.preLen.2.2
      rw [hkd.lev, hkd'.preL, hkd.preL, hq] at hc
      subst hc
      exact even_node W w B k n' ba bb s s' pre' ks ks' d hW h.c3 hs hkd hn h'.c3 hs' hkd' hn' hi hN ih
theorem lev_pos_node {W : World} {k b : Nat} {l : List En} (h : Nd W k b l) (hl : 0 < lev l) : ∃ (s n : Nat) (pre : List Nat) (ks : List (Nat × Nat × List En)), l = cat (ks.map kl) ∧ W.cell? ⟨b, 3, none⟩ = some (.pointer (some ⟨s, 0, none⟩)) ∧ SlR W s k (ks.map kb) ∧ Kd k n pre (ks.map kl) ∧ (∀ x ∈ ks, Nd W k x.2.1 x.2.2) ∧ lev l = n + 1 ∧ preL l = pre := by
  cases h with
  | leaf _ p v h hp ho hv => rw [lev_one] at hl; omega
  | node _ s n pre ks h hs hkd hn => exact ⟨s, n, pre, ks, rfl, h.c3, hs, hkd, hn, hkd.lev, hkd.preL⟩
/-- what a node covers lies below one of its addresses -/
theorem cov_below {W : World} {k ba bb n : Nat} {la lb : List En} {pre : List Nat} (ha : Nd W k ba la) (hb : Nd W k bb lb) (hn : n < 64) (hla : lev la = n + 1) (hpa : preL la = pre) (hlt : lev lb < lev la) (hcv : cov la (preL lb) = true) : Below1 k n pre (Zb.addr (preL lb) n) lb := by
  have hc := (cov_eq hcv).1 rfl
  rw [hla, hpa] at hc
  refine ⟨hb.et, hn, fun e he => ?_, fun e he => ?_⟩
  · have h1 := hb.cut e he
    rw [← hc, ← h1, cut_cut2 (k := k) (hb.et.ok e he) (by omega)]
  · have h1 := hb.cut e he
    rw [← h1]
    exact (Zb.addr_cut e.p (lev lb) n (by omega)).symm
/-- neither covers the other one: the order of the prefixes is that of all -/
theorem apart_any {W : World} {k ba bb : Nat} {la lb : List En} (ha : Nd W k ba la) (hb : Nd W k bb lb) (h : (lev lb ≤ lev la ∧ cov la (preL lb) = false) ∨ (lev la ≤ lev lb ∧ cov lb (preL la) = false)) :
    (Zb.cmp (preL la) (preL lb) < 0 → changesL la lb = la.map goneC ++ lb.map comeC) ∧ (¬ Zb.cmp (preL la) (preL lb) < 0 → changesL la lb = lb.map comeC ++ la.map goneC) := by
  obtain ⟨a1, a2, a3⟩ := ha.pre_ok
  obtain ⟨b1, b2, b3⟩ := hb.pre_ok
  have hex : ∃ n, lev la ≤ n ∧ lev lb ≤ n ∧ Zb.cutN (preL la) n ≠ Zb.cutN (preL lb) n := by
    rcases h with ⟨h1, h2⟩ | ⟨h1, h2⟩
    · refine ⟨lev la, Nat.le_refl _, h1, fun e => ?_⟩
      rw [a3] at e
      have := (cov_eq h2).2 e.symm
      cases this
    · refine ⟨lev lb, h1, Nat.le_refl _, fun e => ?_⟩
      rw [b3] at e
      have := (cov_eq h2).2 e
      cases this
  obtain ⟨n, n1, n2, hne⟩ := hex
  have key : ∀ x ∈ la, ∀ y ∈ lb, ((pkey (preL la) < pkey (preL lb) ↔ x.key < y.key) ∧ (pkey (preL la) < pkey (preL lb) ∨ pkey (preL lb) < pkey (preL la))) ∧ ((pkey (preL lb) < pkey (preL la) ↔ y.key < x.key)) := fun x hx y hy => by
    have e1 : Zb.cutN (preL la) n = Zb.cutN x.p n := by rw [← ha.cut x hx]; exact cut_cut2 (k := k) (ha.et.ok x hx) n1
    have e2 : Zb.cutN (preL lb) n = Zb.cutN y.p n := by rw [← hb.cut y hy]; exact cut_cut2 (k := k) (hb.et.ok y hy) n2
    exact ⟨apart_order (k := k) a1 b1 (ha.et.len x hx) (hb.et.len y hy) a2 b2 (ha.et.ok x hx) (hb.et.ok y hy) e1 e2 hne,
      (apart_order (k := k) b1 a1 (hb.et.len y hy) (ha.et.len x hx) b2 a2 (hb.et.ok y hy) (ha.et.ok x hx) e2 e1 (fun e => hne e.symm)).1⟩
  refine ⟨fun hz => chg_before ha.et hb.et fun x hx y hy => ?_, fun hz => chg_behind ha.et hb.et fun y hy x hx => ?_⟩
  · exact (key x hx y hy).1.1.1 ((cmp_neg _ _).1 hz)
  · have h1 := key x hx y hy
    have h2 : ¬ pkey (preL la) < pkey (preL lb) := fun e => hz ((cmp_neg _ _).2 e)
    exact h1.2.1 (h1.1.2.resolve_left h2)
theorem both1_any (W w : World) (B sb bx : Nat) (q q2 : Option Addr) (D : List Ch) (hs : w.heap[sb]? = some (.cells #[.func (.func 149) #[] #[.pointer (some ⟨B, 0, none⟩)]] 236 (0, 0))) (hb : w.heap[bx]? = some (.cells #[.pointer q2] 113 (0, 0)))
    (h : Calls Tryz.prog 150 #[SV B, .pointer q, .pointer q2] w fun e w' => StP W B D w e w') : Calls Tryz.prog 211 #[.pointer q, .pointer (some ⟨sb, 0, none⟩), .pointer (some ⟨bx, 0, none⟩)] w fun e w' => StP W B D w e w' := by
  have H := Lib.hid h
  have k1 := cell_of_one hs
  have k2 := cell_of_one hb
  have l1 := lt_of_block hs
  have l2 := lt_of_block hb
  clear hs hb h
  go_enter Tryz.func211, Tryz.ntmps211
  go_wp2_with fail
  refine H.out.mono ?_
  rintro e w1 ⟨rfl, hi, hk⟩
  have HF := Lib.hid (And.intro hi hk)
  clear hi hk
  go_wp2_with fail
  go_end0
  exact ⟨rfl, HF.out⟩
theorem both2_any (W w : World) (B sb ab : Nat) (q q2 : Option Addr) (D : List Ch) (hs : w.heap[sb]? = some (.cells #[.func (.func 149) #[] #[.pointer (some ⟨B, 0, none⟩)]] 236 (0, 0))) (hb : w.heap[ab]? = some (.cells #[.pointer q2] 113 (0, 0)))
    (h : Calls Tryz.prog 150 #[SV B, .pointer q2, .pointer q] w fun e w' => StP W B D w e w') : Calls Tryz.prog 212 #[.pointer q, .pointer (some ⟨sb, 0, none⟩), .pointer (some ⟨ab, 0, none⟩)] w fun e w' => StP W B D w e w' := by
  have H := Lib.hid h
  have k1 := cell_of_one hs
  have k2 := cell_of_one hb
  have l1 := lt_of_block hs
  have l2 := lt_of_block hb
  clear hs hb h
  go_enter Tryz.func212, Tryz.ntmps212
  go_wp2_with fail
  refine H.out.mono ?_
  rintro e w1 ⟨rfl, hi, hk⟩
  have HF := Lib.hid (And.intro hi hk)
  clear hi hk
  go_wp2_with fail
  go_end0
  exact ⟨rfl, HF.out⟩
end Go.Proofs.YtdkomhmciihkiaaGreat
/-! DifS -/
namespace Go.Proofs.YtdkomhmciihkiaaGreat
open Go.RowKit
set_option linter.unusedVariables false
set_option linter.unusedSimpArgs false
set_option maxRecDepth 100000

/-- where both stands: its three boxes -/
structure BoS (W w0 : World) (B sb ab bx ba bb : Nat) (d : List Ch) (w : World) : Prop where
  bel : Below W.heap.size W w
  inv : InvT W B d w
  kp : Kp B w0 w
  hs : w.heap[sb]? = some (.cells #[.func (.func 149) #[] #[.pointer (some ⟨B, 0, none⟩)]] 236 (0, 0))
  ha : w.heap[ab]? = some (.cells #[.pointer (some ⟨ba, 0, none⟩)] 113 (0, 0))
  hb : w.heap[bx]? = some (.cells #[.pointer (some ⟨bb, 0, none⟩)] 113 (0, 0))
theorem BoS.step {W w0 w w' : World} {B sb ab bx ba bb : Nat} {d : List Ch} (h : BoS W w0 B sb ab bx ba bb d w) (hb : Below w.heap.size w w') : BoS W w0 B sb ab bx ba bb d w' :=
  ⟨h.bel.trans (hb.mono h.bel.size), h.inv.step hb, h.kp.trans (Kp.of hb), (hb.block _ (lt_of_block h.hs)).trans h.hs, (hb.block _ (lt_of_block h.ha)).trans h.ha, (hb.block _ (lt_of_block h.hb)).trans h.hb⟩
theorem BoS.go {W w0 w w' : World} {B sb ab bx ba bb : Nat} {d d' : List Ch} (h : BoS W w0 B sb ab bx ba bb d w) (hn : sb ≠ B ∧ ab ≠ B ∧ bx ≠ B) (hi : InvT W B d' w') (hk : Kp B w w') : BoS W w0 B sb ab bx ba bb d' w' :=
  ⟨hi.bel, hi, h.kp.trans hk, hk.keep _ _ _ _ h.hs hn.1 (by decide), hk.keep _ _ _ _ h.ha hn.2.1 (by decide), hk.keep _ _ _ _ h.hb hn.2.2 (by decide)⟩
set_option maxHeartbeats 4000000 in
theorem bes_gone (W w0 w : World) (B k ba bb sb ab bx : Nat) (la lb : List En) (d : List Ch) (hW : W.heap.size ≤ B) (k1 : 1 ≤ k) (k16 : k ≤ 16) (ha : Nd W k ba la) (hb : Nd W k bb lb) (hlt : lev lb < lev la) (hcv : cov la (preL lb) = true) (hs : BoS W w0 B sb ab bx ba bb d w) (hn : sb ≠ B ∧ ab ≠ B ∧ bx ≠ B) (hN : d.length + la.length + lb.length ≤ 10000)
    (ih : BoIH W B k (la.length + lb.length)) :
    Calls Tryz.prog 210 #[SV B, .pointer (some ⟨ba, 0, none⟩), .func (.func 208) #[] #[], .int .i64 (Zb.addr (preL lb) (lev la - 1) : Nat), .func (.func 211) #[] #[.pointer (some ⟨sb, 0, none⟩), .pointer (some ⟨bx, 0, none⟩)]] w fun e w' => StP W B (d ++ changesL la lb) w e w' := by
  obtain ⟨s, n, pre, ks, hla, c3, hsl, hk, hnk, hl, hp⟩ := lev_pos_node ha (by omega)
  have hn64 : n < 64 := hk.n64
  have hbl := cov_below ha hb hn64 hl hp hlt hcv
  have hadr : Zb.addr (preL lb) n < 65536 := by
    have h1 := Zb.addr_lt (preL lb) n
    rw [hb.pre_ok.1] at h1
    have h2 : 2 ^ k ≤ 2 ^ 16 := Nat.pow_le_pow_right (by omega) k16
    omega
  have e : lev la - 1 = n := by omega
  rw [e]
  subst hla
  refine beside_any W w B k n ba s (Zb.addr (preL lb) n) pre ks lb d 208 211 goneC #[.pointer (some ⟨sb, 0, none⟩), .pointer (some ⟨bx, 0, none⟩)] changesL as_gone (side_gone k) (enters_func (Tryz.func211) (by kernel_rfl) (by kernel_rfl)) hW c3 hsl hk hnk k1 k16 hbl hadr hs.inv (by omega) ?_
  intro r lx w' d' hr hlx hi' hkp hN'
  obtain ⟨q, hq⟩ := pv_ex r
  have hs' := hs.go hn hi' hkp
  have h9 := ih r (some bb) lx lb w' d' hr hb (by omega) hi' (by omega)
  rw [hq] at h9 ⊢
  exact both1_any W w' B sb bx q _ _ hs'.hs hs'.hb h9
set_option maxHeartbeats 4000000 in
theorem bes_come (W w0 w : World) (B k ba bb sb ab bx : Nat) (la lb : List En) (d : List Ch) (hW : W.heap.size ≤ B) (k1 : 1 ≤ k) (k16 : k ≤ 16) (ha : Nd W k ba la) (hb : Nd W k bb lb) (hlt : lev la < lev lb) (hcv : cov lb (preL la) = true) (hs : BoS W w0 B sb ab bx ba bb d w) (hn : sb ≠ B ∧ ab ≠ B ∧ bx ≠ B) (hN : d.length + la.length + lb.length ≤ 10000)
    (ih : BoIH W B k (la.length + lb.length)) :
    Calls Tryz.prog 210 #[SV B, .pointer (some ⟨bb, 0, none⟩), .func (.func 207) #[] #[], .int .i64 (Zb.addr (preL la) (lev lb - 1) : Nat), .func (.func 212) #[] #[.pointer (some ⟨sb, 0, none⟩), .pointer (some ⟨ab, 0, none⟩)]] w fun e w' => StP W B (d ++ changesL la lb) w e w' := by
  obtain ⟨s, n, pre, ks, hla, c3, hsl, hk, hnk, hl, hp⟩ := lev_pos_node hb (by omega)
  have hn64 : n < 64 := hk.n64
  have hbl := cov_below hb ha hn64 hl hp hlt hcv
  have hadr : Zb.addr (preL la) n < 65536 := by
    have h1 := Zb.addr_lt (preL la) n
    rw [ha.pre_ok.1] at h1
    have h2 : 2 ^ k ≤ 2 ^ 16 := Nat.pow_le_pow_right (by omega) k16
    omega
  have e : lev lb - 1 = n := by omega
  rw [e]
  subst hla
  refine beside_any W w B k n bb s (Zb.addr (preL la) n) pre ks la d 207 212 comeC #[.pointer (some ⟨sb, 0, none⟩), .pointer (some ⟨ab, 0, none⟩)] (fun a b => changesL b a) as_come (side_come k) (enters_func (Tryz.func212) (by kernel_rfl) (by kernel_rfl)) hW c3 hsl hk hnk k1 k16 hbl hadr hs.inv (by omega) ?_
  intro r lx w' d' hr hlx hi' hkp hN'
  obtain ⟨q, hq⟩ := pv_ex r
  have hs' := hs.go hn hi' hkp
  have h9 := ih (some ba) r la lx w' d' ha hr (by omega) hi' (by omega)
  rw [hq] at h9 ⊢
  exact both2_any W w' B sb ab q _ _ hs'.hs hs'.ha h9
end Go.Proofs.YtdkomhmciihkiaaGreat
/-! DifH -/
namespace Go.Proofs.YtdkomhmciihkiaaGreat
open Go.RowKit
set_option linter.unusedVariables false
set_option linter.unusedSimpArgs false
set_option maxRecDepth 100000

set_option maxHeartbeats 32000000 in
theorem both_eq (W w : World) (B k ba bb : Nat) (la lb : List En) (d : List Ch) (hW : W.heap.size ≤ B) (k1 : 1 ≤ k) (k16 : k ≤ 16) (ha : Nd W k ba la) (hb : Nd W k bb lb) (hne : ba ≠ bb) (hi : InvT W B d w) (hN : d.length + la.length + lb.length ≤ 10000) (ih : BoIH W B k (la.length + lb.length)) (hlv : lev la = lev lb) :
    Calls Tryz.prog 150 #[SV B, .pointer (some ⟨ba, 0, none⟩), .pointer (some ⟨bb, 0, none⟩)] w fun e w' => StP W B (d ++ changesL la lb) w e w' := by
  obtain ⟨vA, kpA, hhA⟩ := ha.hd
  obtain ⟨vB, kpB, hhB⟩ := hb.hd
  obtain ⟨pA1, pA2, pA3⟩ := ha.pre_ok
  obtain ⟨pB1, pB2, pB3⟩ := hb.pre_ok
  obtain ⟨uA, cA1, cA2⟩ := hhA.c1
  obtain ⟨uB, cB1, cB2⟩ := hhB.c1
  have hLA := fun w' (h : Below W.heap.size W w') => nlev_any w' ba _ (Below.keeps h _ _ hhA.c0)
  have hLB := fun w' (h : Below W.heap.size W w') => nlev_any w' bb _ (Below.keeps h _ _ hhB.c0)
  obtain ⟨lvA, hlA⟩ : ∃ lv : Int, (lev la : Int) - 1 = lv := ⟨_, rfl⟩
  obtain ⟨lvB, hlB⟩ : ∃ lv : Int, (lev lb : Int) - 1 = lv := ⟨_, rfl⟩
  rw [hlA] at hLA
  rw [hlB] at hLB
  have HLA := Lib.hid hLA
  have HLB := Lib.hid hLB
  have HPA := Lib.hid (fun w' (h : Below W.heap.size W w') => npref_any w' ba (preL la) uA (Below.keeps h _ _ cA1) (cA2.below h) (by omega) (by omega))
  have HPB := Lib.hid (fun w' (h : Below W.heap.size W w') => npref_any w' bb (preL lb) uB (Below.keeps h _ _ cB1) (cB2.below h) (by omega) (by omega))
  have HCA := Lib.hid (fun w' u (h : Below W.heap.size W w') (hu : RdU w' u (pti (preL lb))) => ncov_any w' k ba la (preL lb) u (ha.bel h) hu pB1 pB2 k1 k16)
  have HCB := Lib.hid (fun w' u (h : Below W.heap.size W w') (hu : RdU w' u (pti (preL la))) => ncov_any w' k bb lb (preL la) u (hb.bel h) hu pA1 pA2 k1 k16)
  obtain ⟨prA, hprA⟩ : ∃ p, preL la = p := ⟨_, rfl⟩
  obtain ⟨prB, hprB⟩ : ∃ p, preL lb = p := ⟨_, rfl⟩
  rw [hprA] at HPA HCB
  rw [hprB] at HPB HCA
  have HI := Lib.hid hi
  have hE := fun (h1 : lev la = lev lb) (h2 : cov la (preL lb) = true) (w' : World) (h : InvT W B d w') => even_any W w' B k ba bb la lb d hW k1 k16 ha hb h1 h2 h hN ih
  have hORD := apart_any ha hb
  have HAB := Lib.hid (And.intro ha hb)
  have HD := Lib.hid (And.intro hW (And.intro k1 (And.intro k16 hN)))
  have HLV := Lib.hid (And.intro hlA hlB)
  have HPR := Lib.hid (And.intro hprA hprB)
  have hbx : Below w.heap.size w (((w.alloc (.cells #[.func (.func 149) #[] #[.pointer (some ⟨B, 0, none⟩)]] 236)).alloc (.cells #[.pointer (some ⟨ba, 0, none⟩)] 113)).alloc (.cells #[.pointer (some ⟨bb, 0, none⟩)] 113)) := (by repeat (first | exact Below.refl _ _ | (refine Below.drew ?_) | (refine below_drewN' ?_ _) | (refine below_alloc' ?_ _) | (refine Below.setCell ?_ (by first | exact Nat.le_refl _ | (simp; done) | (simp; omega)) _)))
  have he := node_other (ha.bel (hi.bel.trans (hbx.mono hi.bel.size))) (hb.bel (hi.bel.trans (hbx.mono hi.bel.size))) hne
  have HBX := Lib.hid hbx
  have HALA := Lib.hid (fun (w' : World) (d' : List Ch) (h : InvT W B d' w') (hl : d'.length + la.length ≤ 10000) => dAll_any W w' B k (some ba) la d' _ _ as_gone hW ha k1 k16 h hl)
  have HALB := Lib.hid (fun (w' : World) (d' : List Ch) (h : InvT W B d' w') (hl : d'.length + lb.length ≤ 10000) => dAll_any W w' B k (some bb) lb d' _ _ as_come hW hb k1 k16 h hl)
  have L1 := Lib.hid (show d.length + la.length ≤ 10000 from by omega)
  have L2 := Lib.hid (show (d ++ la.map goneC).length + lb.length ≤ 10000 from by rw [List.length_append, List.length_map]; omega)
  have L3 := Lib.hid (show d.length + lb.length ≤ 10000 from by omega)
  have L4 := Lib.hid (show (d ++ lb.map comeC).length + la.length ≤ 10000 from by rw [List.length_append, List.length_map]; omega)
  have HCMP := Lib.hid (fun (w' : World) (u v : Value) (hu : RdU w' u (pti (preL la))) (hv : RdU w' v (pti (preL lb))) => zCmp_any (preL la) (preL lb) u v w' hu hv (by rw [pA1, pB1]) (by omega) (by omega) pA2 pB2)
  obtain ⟨z, hz0⟩ : ∃ z, Zb.cmp (preL la) (preL lb) = z := ⟨_, rfl⟩
  rw [hz0] at HCMP hORD
  rw [hprA, hprB] at HCMP
  rw [hprA, hprB] at hORD
  rw [hprB] at hE
  have hc0 : lvA = lvB := by omega
  have HCM := Lib.hid (show lvA = lvB ∧ (lvA == lvB) = true from ⟨hc0, by simp [hc0]⟩)
  have HG1 := Lib.hid (show ¬ lvA > lvB ∧ decide (lvA > lvB) = false from ⟨by omega, by simp [hc0]⟩)
  have HG2 := Lib.hid (show ¬ lvB > lvA ∧ decide (lvB > lvA) = false from ⟨by omega, by simp [hc0]⟩)
  clear hc0
  obtain ⟨cv, hcv⟩ : ∃ cv, cov la prB = cv := ⟨_, rfl⟩
  rw [hcv] at HCA hORD hE
  have HEV := Lib.hid (fun (h : cv = true) => hE hlv h)
  have HOR := Lib.hid (fun (h : cv = false) => hORD (Or.inl ⟨Nat.le_of_eq hlv.symm, h⟩))
  clear hcv
  clear hlv ha hb hne hi hN hW k1 k16 hhA hhB pA1 pA2 pA3 pB1 pB2 pB3 cA1 cA2 cB1 cB2 hLA hLB hlA hlB hprA hprB hbx hE hORD ih hz0
  go_enter Tryz.func150, Tryz.ntmps150
  go_wp2_with fail
  have hBl := Exists.choose_spec (InvT.blkB HI.out)
  have HBS := Lib.hid (lt_of_block hBl)
  have hs0 : (((w.alloc (.cells #[.func (.func 149) #[] #[.pointer (some ⟨B, 0, none⟩)]] 236)).alloc (.cells #[.pointer (some ⟨ba, 0, none⟩)] 113)).alloc (.cells #[.pointer (some ⟨bb, 0, none⟩)] 113)).heap[w.heap.size]? = some (.cells #[.func (.func 149) #[] #[.pointer (some ⟨B, 0, none⟩)]] 236 (0, 0)) := (((by repeat (first | exact Below.refl _ _ | (refine Below.drew ?_) | (refine below_drewN' ?_ _) | (refine below_alloc' ?_ _) | (refine Below.setCell ?_ (by first | exact Nat.le_refl _ | (simp; done) | (simp; omega)) _))) : Below (w.alloc (.cells #[.func (.func 149) #[] #[.pointer (some ⟨B, 0, none⟩)]] 236)).heap.size (w.alloc (.cells #[.func (.func 149) #[] #[.pointer (some ⟨B, 0, none⟩)]] 236)) _).block _ (by simp)).trans (alloc_blk _ _)
  have ha0 : (((w.alloc (.cells #[.func (.func 149) #[] #[.pointer (some ⟨B, 0, none⟩)]] 236)).alloc (.cells #[.pointer (some ⟨ba, 0, none⟩)] 113)).alloc (.cells #[.pointer (some ⟨bb, 0, none⟩)] 113)).heap[w.heap.size + 1]? = some (.cells #[.pointer (some ⟨ba, 0, none⟩)] 113 (0, 0)) := (((by repeat (first | exact Below.refl _ _ | (refine Below.drew ?_) | (refine below_drewN' ?_ _) | (refine below_alloc' ?_ _) | (refine Below.setCell ?_ (by first | exact Nat.le_refl _ | (simp; done) | (simp; omega)) _))) : Below ((w.alloc (.cells #[.func (.func 149) #[] #[.pointer (some ⟨B, 0, none⟩)]] 236)).alloc (.cells #[.pointer (some ⟨ba, 0, none⟩)] 113)).heap.size ((w.alloc (.cells #[.func (.func 149) #[] #[.pointer (some ⟨B, 0, none⟩)]] 236)).alloc (.cells #[.pointer (some ⟨ba, 0, none⟩)] 113)) _).block _ (by simp)).trans (by have := alloc_blk (w.alloc (.cells #[.func (.func 149) #[] #[.pointer (some ⟨B, 0, none⟩)]] 236)) (.cells #[.pointer (some ⟨ba, 0, none⟩)] 113); simpa using this)
  have hb0 : (((w.alloc (.cells #[.func (.func 149) #[] #[.pointer (some ⟨B, 0, none⟩)]] 236)).alloc (.cells #[.pointer (some ⟨ba, 0, none⟩)] 113)).alloc (.cells #[.pointer (some ⟨bb, 0, none⟩)] 113)).heap[w.heap.size + 1 + 1]? = some (.cells #[.pointer (some ⟨bb, 0, none⟩)] 113 (0, 0)) := by have := alloc_blk ((w.alloc (.cells #[.func (.func 149) #[] #[.pointer (some ⟨B, 0, none⟩)]] 236)).alloc (.cells #[.pointer (some ⟨ba, 0, none⟩)] 113)) (.cells #[.pointer (some ⟨bb, 0, none⟩)] 113); simpa using this
  have HBW0 := Lib.hid (HI.out.bel.trans (HBX.out.mono HI.out.bel.size))
  have HIX := Lib.hid (HI.out.step HBX.out)
  have HKX := Lib.hid (Kp.of (B := B) HBX.out)
  obtain ⟨sb, hsb⟩ : ∃ sb, w.heap.size = sb := ⟨_, rfl⟩
  obtain ⟨ab, hab⟩ : ∃ ab, w.heap.size + 1 = ab := ⟨_, rfl⟩
  obtain ⟨bx, hbxx⟩ : ∃ bx, w.heap.size + 1 + 1 = bx := ⟨_, rfl⟩
  have HNB := Lib.hid (show sb ≠ B ∧ ab ≠ B ∧ bx ≠ B from by have := HBS.out; omega)
  rw [hsb] at hs0
  rw [hab] at ha0
  rw [hbxx] at hb0
  rw [hbxx, hab, hsb]
  clear hsb hab hbxx he HBX hBl
  generalize ((w.alloc (.cells #[.func (.func 149) #[] #[.pointer (some ⟨B, 0, none⟩)]] 236)).alloc (.cells #[.pointer (some ⟨ba, 0, none⟩)] 113)).alloc (.cells #[.pointer (some ⟨bb, 0, none⟩)] 113) = wx at *
  have HS := Lib.hid (show BoS W w B sb ab bx ba bb d wx from ⟨HBW0.out, HIX.out, HKX.out, hs0, ha0, hb0⟩)
  clear hs0 ha0 hb0 HBW0 HIX HKX HBS
  have HN3 := HNB
  clear HNB
  have hcmp := HCM.out.1
  have hcmpb := HCM.out.2
  have HBW := Lib.hid HS.out.bel
  have kA := cell_of_one HS.out.ha
  have kB := cell_of_one HS.out.hb
  have kS := cell_of_one HS.out.hs
  have lA := lt_of_block HS.out.ha
  have lB := lt_of_block HS.out.hb
  have lS := lt_of_block HS.out.hs
  refine wp_region_vals 10 [fun z9 _ => z9 = .pointer (some ⟨ba, 0, none⟩),
    fun z9 _ => z9 = .int .i64 lvA,
    fun z9 _ => z9 = .pointer (some ⟨bb, 0, none⟩),
    fun z9 _ => z9 = .int .i64 lvB,
    fun z9 _ => z9 = .bool true,
    fun z9 _ => z9 = .bool true,
    fun z9 _ => z9 = .pointer (some ⟨ba, 0, none⟩),
    fun z9 _ => z9 = .pointer (some ⟨bb, 0, none⟩),
    fun v9 w9 => PtNew w9 v9 prB,
    fun z9 _ => z9 = .bool cv]
    (by kernel_rfl) (by kernel_rfl) (by kernel_rfl) (by kernel_rfl) ?_ ?_ ?_
  · intro V hV v w1 w2 h hb
    simp only [List.mem_cons, List.not_mem_nil, or_false] at hV
    rcases hV with rfl | rfl | rfl | rfl | rfl | rfl | rfl | rfl | rfl | rfl
    all_goals first | exact h | (exact PtNew.below h hb)
  · intro iq oq hiq hoq
    match iq, hiq with
    | 0, _ =>
    obtain rfl := Option.some.inj hoq
    intro a1 w1 K hk hK
    have e4 : a1.tmps.getD 4 undef = .pointer (some ⟨ab, 0, none⟩) := hk.same 4 (by simp)
    have c0 : w1.cell? ⟨ab, 0, none⟩ = some (.pointer (some ⟨ba, 0, none⟩)) := Below.keeps hk.ext _ _ (by simp [go_sem, kA, kB, hcmp, hcmpb])
    have c1 : w1.cell? ⟨bx, 0, none⟩ = some (.pointer (some ⟨bb, 0, none⟩)) := Below.keeps hk.ext _ _ (by simp [go_sem, kA, kB, hcmp, hcmpb])
    simp [Region.wanted, Oper.wp, Act.eval, go_sem, e4, c0, c1, kA, kB, hcmp, hcmpb]
    exact hK _ _ (Below.refl _ _) rfl
    | 1, _ =>
    obtain rfl := Option.some.inj hoq
    intro a1 w1 K hk hK
    have d51 : a1.tmps.getD 51 undef = .pointer (some ⟨ba, 0, none⟩) := hk.deps ⟨0, .data⟩ (by simp) rfl _ _ rfl rfl
    simp [Region.wanted, Oper.wp, Act.eval, go_sem, d51, kA, kB, hcmp, hcmpb]
    refine (HLA.out _ (HBW.out.trans ((below_trans (by repeat (first | exact Below.refl _ _ | (refine Below.drew ?_) | (refine below_drewN' ?_ _) | (refine below_alloc' ?_ _) | (refine Below.setCell ?_ (by first | exact Nat.le_refl _ | (simp; done) | (simp; omega)) _))) hk.ext).mono HBW.out.size))).mono ?_
    rintro e w9 ⟨rfl, hw9⟩
    exact hK _ _ (by rw [hw9]; exact Below.refl _ _) rfl
    | 2, _ =>
    obtain rfl := Option.some.inj hoq
    intro a1 w1 K hk hK
    have e5 : a1.tmps.getD 5 undef = .pointer (some ⟨bx, 0, none⟩) := hk.same 5 (by simp)
    have c0 : w1.cell? ⟨ab, 0, none⟩ = some (.pointer (some ⟨ba, 0, none⟩)) := Below.keeps hk.ext _ _ (by simp [go_sem, kA, kB, hcmp, hcmpb])
    have c1 : w1.cell? ⟨bx, 0, none⟩ = some (.pointer (some ⟨bb, 0, none⟩)) := Below.keeps hk.ext _ _ (by simp [go_sem, kA, kB, hcmp, hcmpb])
    simp [Region.wanted, Oper.wp, Act.eval, go_sem, e5, c0, c1, kA, kB, hcmp, hcmpb]
    exact hK _ _ (Below.refl _ _) rfl
    | 3, _ =>
    obtain rfl := Option.some.inj hoq
    intro a1 w1 K hk hK
    have d53 : a1.tmps.getD 53 undef = .pointer (some ⟨bb, 0, none⟩) := hk.deps ⟨2, .data⟩ (by simp) rfl _ _ rfl rfl
    simp [Region.wanted, Oper.wp, Act.eval, go_sem, d53, kA, kB, hcmp, hcmpb]
    refine (HLB.out _ (HBW.out.trans ((below_trans (by repeat (first | exact Below.refl _ _ | (refine Below.drew ?_) | (refine below_drewN' ?_ _) | (refine below_alloc' ?_ _) | (refine Below.setCell ?_ (by first | exact Nat.le_refl _ | (simp; done) | (simp; omega)) _))) hk.ext).mono HBW.out.size))).mono ?_
    rintro e w9 ⟨rfl, hw9⟩
    exact hK _ _ (by rw [hw9]; exact Below.refl _ _) rfl
    | 4, _ =>
    obtain rfl := Option.some.inj hoq
    intro a1 w1 K hk hK
    have d52 : a1.tmps.getD 52 undef = .int .i64 lvA := hk.deps ⟨1, .data⟩ (by simp) rfl _ _ rfl rfl
    have d54 : a1.tmps.getD 54 undef = .int .i64 lvB := hk.deps ⟨3, .data⟩ (by simp) rfl _ _ rfl rfl
    simp [Region.wanted, Oper.wp, Act.eval, go_sem, d52, d54, kA, kB, hcmp, hcmpb]
    exact hK _ _ (Below.refl _ _) rfl
    | 5, _ =>
    obtain rfl := Option.some.inj hoq
    intro a1 w1 K hk hK
    have d55 : a1.tmps.getD 55 undef = .bool true := hk.deps ⟨4, .data⟩ (by simp) rfl _ _ rfl rfl
    simp [Region.wanted, Oper.wp, Act.eval, go_sem, d55, kA, kB, hcmp, hcmpb]
    exact hK _ _ (Below.refl _ _) rfl
    | 6, _ =>
    obtain rfl := Option.some.inj hoq
    intro a1 w1 K hk hK
    have e4 : a1.tmps.getD 4 undef = .pointer (some ⟨ab, 0, none⟩) := hk.same 4 (by simp)
    have gd : a1.tmps[56]? = some (.bool true) := getD_bool (hk.deps ⟨5, .guard⟩ (by simp) rfl _ _ rfl rfl)
    have c0 : w1.cell? ⟨ab, 0, none⟩ = some (.pointer (some ⟨ba, 0, none⟩)) := Below.keeps hk.ext _ _ (by simp [go_sem, kA, kB, hcmp, hcmpb])
    have c1 : w1.cell? ⟨bx, 0, none⟩ = some (.pointer (some ⟨bb, 0, none⟩)) := Below.keeps hk.ext _ _ (by simp [go_sem, kA, kB, hcmp, hcmpb])
    simp [Region.wanted, Oper.wp, Act.eval, go_sem, e4, gd, yielded, c0, c1, kA, kB, hcmp, hcmpb]
    exact hK _ _ (Below.refl _ _) rfl
    | 7, _ =>
    obtain rfl := Option.some.inj hoq
    intro a1 w1 K hk hK
    have e5 : a1.tmps.getD 5 undef = .pointer (some ⟨bx, 0, none⟩) := hk.same 5 (by simp)
    have gd : a1.tmps[56]? = some (.bool true) := getD_bool (hk.deps ⟨5, .guard⟩ (by simp) rfl _ _ rfl rfl)
    have c0 : w1.cell? ⟨ab, 0, none⟩ = some (.pointer (some ⟨ba, 0, none⟩)) := Below.keeps hk.ext _ _ (by simp [go_sem, kA, kB, hcmp, hcmpb])
    have c1 : w1.cell? ⟨bx, 0, none⟩ = some (.pointer (some ⟨bb, 0, none⟩)) := Below.keeps hk.ext _ _ (by simp [go_sem, kA, kB, hcmp, hcmpb])
    simp [Region.wanted, Oper.wp, Act.eval, go_sem, e5, gd, yielded, c0, c1, kA, kB, hcmp, hcmpb]
    exact hK _ _ (Below.refl _ _) rfl
    | 8, _ =>
    obtain rfl := Option.some.inj hoq
    intro a1 w1 K hk hK
    have d58 : a1.tmps.getD 58 undef = .pointer (some ⟨bb, 0, none⟩) := hk.deps ⟨7, .data⟩ (by simp) rfl _ _ rfl rfl
    have gd : a1.tmps[56]? = some (.bool true) := getD_bool (hk.deps ⟨5, .guard⟩ (by simp) rfl _ _ rfl rfl)
    simp [Region.wanted, Oper.wp, Act.eval, go_sem, d58, gd, yielded, kA, kB, hcmp, hcmpb]
    refine (HPB.out _ (HBW.out.trans ((below_trans (by repeat (first | exact Below.refl _ _ | (refine Below.drew ?_) | (refine below_drewN' ?_ _) | (refine below_alloc' ?_ _) | (refine Below.setCell ?_ (by first | exact Nat.le_refl _ | (simp; done) | (simp; omega)) _))) hk.ext).mono HBW.out.size))).mono ?_
    rintro e w9 ⟨u9, rfl, h9, hb9⟩
    exact hK _ _ hb9 h9
    | 9, _ =>
    obtain rfl := Option.some.inj hoq
    intro a1 w1 K hk hK
    have d57 : a1.tmps.getD 57 undef = .pointer (some ⟨ba, 0, none⟩) := hk.deps ⟨6, .data⟩ (by simp) rfl _ _ rfl rfl
    have D59 : PtNew w1 (a1.tmps.getD 59 undef) prB := hk.deps ⟨8, .data⟩ (by simp) rfl _ _ rfl rfl
    have gd : a1.tmps[56]? = some (.bool true) := getD_bool (hk.deps ⟨5, .guard⟩ (by simp) rfl _ _ rfl rfl)
    obtain ⟨A9, c9, eP, _⟩ := RdU.point D59.rd
    have ePx : a1.tmps[59]?.getD undef = .slice A9 prB.length c9 := by rw [← eP]; simp
    rw [eP] at D59
    simp [Region.wanted, Oper.wp, Act.eval, go_sem, d57, eP, ePx, gd, yielded, kA, kB]
    refine (HCA.out _ _ (HBW.out.trans ((below_trans (by repeat (first | exact Below.refl _ _ | (refine Below.drew ?_) | (refine below_drewN' ?_ _) | (refine below_alloc' ?_ _) | (refine Below.setCell ?_ (by first | exact Nat.le_refl _ | (simp; done) | (simp; omega)) _))) hk.ext).mono HBW.out.size)) D59.rd).mono ?_
    rintro e w9 ⟨rfl, hw9⟩
    exact hK _ _ (by rw [hw9]; exact Below.refl _ _) rfl
  · intro vs w3 hl hb3 hv
    match vs, hl with
    | [v0, v1, v2, v3, v4, v5, v6, v7, v8, v9], _ =>
    obtain rfl : v0 = .pointer (some ⟨ba, 0, none⟩) := hv 0 (by omega)
    obtain rfl : v1 = .int .i64 lvA := hv 1 (by omega)
    obtain rfl : v2 = .pointer (some ⟨bb, 0, none⟩) := hv 2 (by omega)
    obtain rfl : v3 = .int .i64 lvB := hv 3 (by omega)
    obtain rfl : v4 = .bool true := hv 4 (by omega)
    obtain rfl : v5 = .bool true := hv 5 (by omega)
    obtain rfl : v6 = .pointer (some ⟨ba, 0, none⟩) := hv 6 (by omega)
    obtain rfl : v7 = .pointer (some ⟨bb, 0, none⟩) := hv 7 (by omega)
    have q8 : PtNew w3 v8 prB := hv 8 (by omega)
    obtain rfl : v9 = .bool cv := hv 9 (by omega)
    clear hv
    simp only [putAll, List.take_succ_cons, List.take_zero, List.drop_succ_cons, List.drop_zero, Act.put, List.setIfInBounds_toArray, List.set_cons_succ, List.set_cons_zero]
    have HS2 := Lib.hid (HS.out.step hb3)
    clear hb3 HS HBW kA kB kS lA lB lS
    have HS := Lib.hid HS2.out
    clear HS2
    clear q8
    clear hcmp hcmpb HCM
    cases cv with
    | true =>
      have HBW := Lib.hid HS.out.bel
      have kA := cell_of_one HS.out.ha
      have kB := cell_of_one HS.out.hb
      have kS := cell_of_one HS.out.hs
      have lA := lt_of_block HS.out.ha
      have lB := lt_of_block HS.out.hb
      have lS := lt_of_block HS.out.hs
      have HV := Lib.hid (HEV.out rfl _ HS.out.inv)
      go_wp2_with fail
      refine HV.out.mono ?_
      rintro e w7 ⟨rfl, hi7, hk7⟩
      have HF := Lib.hid (And.intro hi7 (HS.out.kp.trans hk7))
      clear hi7 hk7
      go_wp2_with fail
      go_end0
      exact ⟨rfl, HF.out⟩
    | false =>
      have HORD := Lib.hid (HOR.out rfl)
      clear HOR HEV
      have hg := HG1.out.1
      have hgb := HG1.out.2
      have HBW := Lib.hid HS.out.bel
      have kA := cell_of_one HS.out.ha
      have kB := cell_of_one HS.out.hb
      have kS := cell_of_one HS.out.hs
      have lA := lt_of_block HS.out.ha
      have lB := lt_of_block HS.out.hb
      have lS := lt_of_block HS.out.hs
      go_wp2_with fail
      go_quiet ((go_at_call 121; first | with_reducible exact Calls.quiet_of_same (HLA.out _ (below_drewN' HBW.out _)) | with_reducible exact Calls.quiet_of_same (HLB.out _ (below_drewN' HBW.out _))))
      go_wp2_with fail
      refine stayC ?_
      intro wq hwq
      have HS2 := Lib.hid (HS.out.step (show Below _ _ wq from by rw [hwq]; exact (by repeat (first | exact Below.refl _ _ | (refine below_drewN' ?_ _)))))
      clear hwq HS HBW kA kB kS lA lB lS
      have HS := Lib.hid HS2.out
      clear HS2
      clear hg hgb
      have hg := HG2.out.1
      have hgb := HG2.out.2
      have HBW := Lib.hid HS.out.bel
      have kA := cell_of_one HS.out.ha
      have kB := cell_of_one HS.out.hb
      have kS := cell_of_one HS.out.hs
      have lA := lt_of_block HS.out.ha
      have lB := lt_of_block HS.out.hb
      have lS := lt_of_block HS.out.hs
      go_quiet ((go_at_call 121; first | with_reducible exact Calls.quiet_of_same (HLA.out _ (below_drewN' HBW.out _)) | with_reducible exact Calls.quiet_of_same (HLB.out _ (below_drewN' HBW.out _))))
      go_wp2_with fail
      refine stayC ?_
      intro wq hwq
      have HS2 := Lib.hid (HS.out.step (show Below _ _ wq from by rw [hwq]; exact (by repeat (first | exact Below.refl _ _ | (refine below_drewN' ?_ _)))))
      clear hwq HS HBW kA kB kS lA lB lS
      have HS := Lib.hid HS2.out
      clear HS2
      clear hg hgb
      go_wp2_with fail
      have HBW := Lib.hid HS.out.bel
      have kA := cell_of_one HS.out.ha
      have kB := cell_of_one HS.out.hb
      have kS := cell_of_one HS.out.hs
      have lA := lt_of_block HS.out.ha
      have lB := lt_of_block HS.out.hb
      have lS := lt_of_block HS.out.hs
      refine wp_region_vals 9 [fun z9 _ => z9 = .pointer (some ⟨ba, 0, none⟩),
        fun v9 w9 => PtNew w9 v9 prA,
        fun z9 _ => z9 = .pointer (some ⟨bb, 0, none⟩),
        fun v9 w9 => PtNew w9 v9 prB,
        fun z9 _ => z9 = .tuple #[.int .i64 z, .int .i64 0],
        fun z9 _ => z9 = .tuple #[.int .i64 z, .int .i64 0],
        fun z9 _ => z9 = .int .i64 z,
        fun z9 _ => z9 = .int .i64 0,
        fun z9 _ => z9 = .int .i64 z]
        (by kernel_rfl) (by kernel_rfl) (by kernel_rfl) (by kernel_rfl) ?_ ?_ ?_
      · intro V hV v w1 w2 h hb
        simp only [List.mem_cons, List.not_mem_nil, or_false] at hV
        rcases hV with rfl | rfl | rfl | rfl | rfl | rfl | rfl | rfl | rfl
        all_goals first | exact h | (exact PtNew.below h hb)
      · intro iq oq hiq hoq
        match iq, hiq with
        | 0, _ =>
        obtain rfl := Option.some.inj hoq
        intro a1 w1 K hk hK
        have e4 : a1.tmps.getD 4 undef = .pointer (some ⟨ab, 0, none⟩) := hk.same 4 (by simp)
        have c0 : w1.cell? ⟨ab, 0, none⟩ = some (.pointer (some ⟨ba, 0, none⟩)) := Below.keeps hk.ext _ _ (by simp [go_sem, kA, kB])
        have c1 : w1.cell? ⟨bx, 0, none⟩ = some (.pointer (some ⟨bb, 0, none⟩)) := Below.keeps hk.ext _ _ (by simp [go_sem, kA, kB])
        simp [Region.wanted, Oper.wp, Act.eval, go_sem, e4, c0, c1, kA, kB]
        exact hK _ _ (Below.refl _ _) rfl
        | 1, _ =>
        obtain rfl := Option.some.inj hoq
        intro a1 w1 K hk hK
        have d13 : a1.tmps.getD 13 undef = .pointer (some ⟨ba, 0, none⟩) := hk.deps ⟨0, .data⟩ (by simp) rfl _ _ rfl rfl
        simp [Region.wanted, Oper.wp, Act.eval, go_sem, d13, kA, kB]
        refine (HPA.out _ (HBW.out.trans ((below_trans (by repeat (first | exact Below.refl _ _ | (refine Below.drew ?_) | (refine below_drewN' ?_ _) | (refine below_alloc' ?_ _) | (refine Below.setCell ?_ (by first | exact Nat.le_refl _ | (simp; done) | (simp; omega)) _))) hk.ext).mono HBW.out.size))).mono ?_
        rintro e w9 ⟨u9, rfl, h9, hb9⟩
        exact hK _ _ hb9 h9
        | 2, _ =>
        obtain rfl := Option.some.inj hoq
        intro a1 w1 K hk hK
        have e5 : a1.tmps.getD 5 undef = .pointer (some ⟨bx, 0, none⟩) := hk.same 5 (by simp)
        have c0 : w1.cell? ⟨ab, 0, none⟩ = some (.pointer (some ⟨ba, 0, none⟩)) := Below.keeps hk.ext _ _ (by simp [go_sem, kA, kB])
        have c1 : w1.cell? ⟨bx, 0, none⟩ = some (.pointer (some ⟨bb, 0, none⟩)) := Below.keeps hk.ext _ _ (by simp [go_sem, kA, kB])
        simp [Region.wanted, Oper.wp, Act.eval, go_sem, e5, c0, c1, kA, kB]
        exact hK _ _ (Below.refl _ _) rfl
        | 3, _ =>
        obtain rfl := Option.some.inj hoq
        intro a1 w1 K hk hK
        have d15 : a1.tmps.getD 15 undef = .pointer (some ⟨bb, 0, none⟩) := hk.deps ⟨2, .data⟩ (by simp) rfl _ _ rfl rfl
        simp [Region.wanted, Oper.wp, Act.eval, go_sem, d15, kA, kB]
        refine (HPB.out _ (HBW.out.trans ((below_trans (by repeat (first | exact Below.refl _ _ | (refine Below.drew ?_) | (refine below_drewN' ?_ _) | (refine below_alloc' ?_ _) | (refine Below.setCell ?_ (by first | exact Nat.le_refl _ | (simp; done) | (simp; omega)) _))) hk.ext).mono HBW.out.size))).mono ?_
        rintro e w9 ⟨u9, rfl, h9, hb9⟩
        exact hK _ _ hb9 h9
        | 4, _ =>
        obtain rfl := Option.some.inj hoq
        intro a1 w1 K hk hK
        have D14 : PtNew w1 (a1.tmps.getD 14 undef) prA := hk.deps ⟨1, .data⟩ (by simp) rfl _ _ rfl rfl
        have D16 : PtNew w1 (a1.tmps.getD 16 undef) prB := hk.deps ⟨3, .data⟩ (by simp) rfl _ _ rfl rfl
        obtain ⟨AP, cP, eP, _⟩ := RdU.point D14.rd
        have ePx : a1.tmps[14]?.getD undef = .slice AP prA.length cP := by rw [← eP]; simp
        rw [eP] at D14
        obtain ⟨AQ, cQ, eQ, _⟩ := RdU.point D16.rd
        have eQx : a1.tmps[16]?.getD undef = .slice AQ prB.length cQ := by rw [← eQ]; simp
        rw [eQ] at D16
        simp [Region.wanted, Oper.wp, Act.eval, go_sem, eP, ePx, eQ, eQx, kA, kB]
        refine (HCMP.out _ _ _ D14.rd D16.rd).mono ?_
        rintro e w9 ⟨rfl, hw9⟩
        exact hK _ _ (by rw [hw9]; exact Below.refl _ _) rfl
        | 5, _ =>
        obtain rfl := Option.some.inj hoq
        intro a1 w1 K hk hK
        have d17 : a1.tmps.getD 17 undef = .tuple #[.int .i64 z, .int .i64 0] := hk.deps ⟨4, .data⟩ (by simp) rfl _ _ rfl rfl
        simp [Region.wanted, Oper.wp, Act.eval, go_sem, d17, kA, kB]
        exact hK _ _ (Below.refl _ _) rfl
        | 6, _ =>
        obtain rfl := Option.some.inj hoq
        intro a1 w1 K hk hK
        have d12 : a1.tmps.getD 12 undef = .tuple #[.int .i64 z, .int .i64 0] := hk.deps ⟨5, .data⟩ (by simp) rfl _ _ rfl rfl
        simp [Region.wanted, Oper.wp, Act.eval, go_sem, d12, kA, kB]
        exact hK _ _ (Below.refl _ _) rfl
        | 7, _ =>
        obtain rfl := Option.some.inj hoq
        intro a1 w1 K hk hK
        have d12 : a1.tmps.getD 12 undef = .tuple #[.int .i64 z, .int .i64 0] := hk.deps ⟨5, .data⟩ (by simp) rfl _ _ rfl rfl
        simp [Region.wanted, Oper.wp, Act.eval, go_sem, d12, kA, kB]
        exact hK _ _ (Below.refl _ _) rfl
        | 8, _ =>
        obtain rfl := Option.some.inj hoq
        intro a1 w1 K hk hK
        have d18 : a1.tmps.getD 18 undef = .int .i64 z := hk.deps ⟨6, .data⟩ (by simp) rfl _ _ rfl rfl
        simp [Region.wanted, Oper.wp, Act.eval, go_sem, d18, kA, kB]
        exact hK _ _ (Below.refl _ _) rfl
      · intro vs w3 hl hb3 hv
        match vs, hl with
        | [v0, v1, v2, v3, v4, v5, v6, v7, v8], _ =>
        obtain rfl : v0 = .pointer (some ⟨ba, 0, none⟩) := hv 0 (by omega)
        have q1 : PtNew w3 v1 prA := hv 1 (by omega)
        obtain rfl : v2 = .pointer (some ⟨bb, 0, none⟩) := hv 2 (by omega)
        have q3 : PtNew w3 v3 prB := hv 3 (by omega)
        obtain rfl : v4 = .tuple #[.int .i64 z, .int .i64 0] := hv 4 (by omega)
        obtain rfl : v5 = .tuple #[.int .i64 z, .int .i64 0] := hv 5 (by omega)
        obtain rfl : v6 = .int .i64 z := hv 6 (by omega)
        obtain rfl : v7 = .int .i64 0 := hv 7 (by omega)
        obtain rfl : v8 = .int .i64 z := hv 8 (by omega)
        clear hv
        simp only [putAll, List.take_succ_cons, List.take_zero, List.drop_succ_cons, List.drop_zero, Act.put, List.setIfInBounds_toArray, List.set_cons_succ, List.set_cons_zero]
        have HS2 := Lib.hid (HS.out.step hb3)
        clear hb3 HS HBW kA kB kS lA lB lS
        have HS := Lib.hid HS2.out
        clear HS2
        clear q1 q3
        by_cases hz : z < 0
        · have HE := Lib.hid (HORD.out.1 (by omega))
          have HBW := Lib.hid HS.out.bel
          have kA := cell_of_one HS.out.ha
          have kB := cell_of_one HS.out.hb
          have kS := cell_of_one HS.out.hs
          have lA := lt_of_block HS.out.ha
          have lB := lt_of_block HS.out.hb
          have lS := lt_of_block HS.out.hs
          go_wp2_with fail
          refine (HALA.out _ _ HS.out.inv L1.out).mono ?_
          rintro e w7 ⟨rfl, hi7, hk7⟩
          have HS2 := Lib.hid (HS.out.go HN3.out hi7 hk7)
          clear hi7 hk7 HBW kA kB kS lA lB lS
          have kA := cell_of_one HS2.out.ha
          have kB := cell_of_one HS2.out.hb
          have kS := cell_of_one HS2.out.hs
          have lA := lt_of_block HS2.out.ha
          have lB := lt_of_block HS2.out.hb
          have lS := lt_of_block HS2.out.hs
          go_wp2_with fail
          refine (HALB.out _ _ HS2.out.inv L2.out).mono ?_
          rintro e w8 ⟨rfl, hi8, hk8⟩
          have HF := Lib.hid (And.intro hi8 (HS2.out.kp.trans hk8))
          clear hi8 hk8
          go_wp2_with fail
          go_end0
          rw [HE.out, ← List.append_assoc]
          exact ⟨rfl, HF.out⟩
        · have HE := Lib.hid (HORD.out.2 (by omega))
          have HBW := Lib.hid HS.out.bel
          have kA := cell_of_one HS.out.ha
          have kB := cell_of_one HS.out.hb
          have kS := cell_of_one HS.out.hs
          have lA := lt_of_block HS.out.ha
          have lB := lt_of_block HS.out.hb
          have lS := lt_of_block HS.out.hs
          go_wp2_with fail
          refine (HALB.out _ _ HS.out.inv L3.out).mono ?_
          rintro e w7 ⟨rfl, hi7, hk7⟩
          have HS2 := Lib.hid (HS.out.go HN3.out hi7 hk7)
          clear hi7 hk7 HBW kA kB kS lA lB lS
          have kA := cell_of_one HS2.out.ha
          have kB := cell_of_one HS2.out.hb
          have kS := cell_of_one HS2.out.hs
          have lA := lt_of_block HS2.out.ha
          have lB := lt_of_block HS2.out.hb
          have lS := lt_of_block HS2.out.hs
          go_wp2_with fail
          refine (HALA.out _ _ HS2.out.inv L4.out).mono ?_
          rintro e w8 ⟨rfl, hi8, hk8⟩
          have HF := Lib.hid (And.intro hi8 (HS2.out.kp.trans hk8))
          clear hi8 hk8
          go_wp2_with fail
          go_end0
          rw [HE.out, ← List.append_assoc]
          exact ⟨rfl, HF.out⟩
end Go.Proofs.YtdkomhmciihkiaaGreat
/-! DifJ -/
namespace Go.Proofs.YtdkomhmciihkiaaGreat
open Go.RowKit
set_option linter.unusedVariables false
set_option linter.unusedSimpArgs false
set_option maxRecDepth 100000

set_option maxHeartbeats 32000000 in
theorem both_gt (W w : World) (B k ba bb : Nat) (la lb : List En) (d : List Ch) (hW : W.heap.size ≤ B) (k1 : 1 ≤ k) (k16 : k ≤ 16) (ha : Nd W k ba la) (hb : Nd W k bb lb) (hne : ba ≠ bb) (hi : InvT W B d w) (hN : d.length + la.length + lb.length ≤ 10000) (ih : BoIH W B k (la.length + lb.length)) (hlv : lev lb < lev la) :
    Calls Tryz.prog 150 #[SV B, .pointer (some ⟨ba, 0, none⟩), .pointer (some ⟨bb, 0, none⟩)] w fun e w' => StP W B (d ++ changesL la lb) w e w' := by
  obtain ⟨vA, kpA, hhA⟩ := ha.hd
  obtain ⟨vB, kpB, hhB⟩ := hb.hd
  obtain ⟨pA1, pA2, pA3⟩ := ha.pre_ok
  obtain ⟨pB1, pB2, pB3⟩ := hb.pre_ok
  obtain ⟨uA, cA1, cA2⟩ := hhA.c1
  obtain ⟨uB, cB1, cB2⟩ := hhB.c1
  have hLA := fun w' (h : Below W.heap.size W w') => nlev_any w' ba _ (Below.keeps h _ _ hhA.c0)
  have hLB := fun w' (h : Below W.heap.size W w') => nlev_any w' bb _ (Below.keeps h _ _ hhB.c0)
  obtain ⟨lvA, hlA⟩ : ∃ lv : Int, (lev la : Int) - 1 = lv := ⟨_, rfl⟩
  obtain ⟨lvB, hlB⟩ : ∃ lv : Int, (lev lb : Int) - 1 = lv := ⟨_, rfl⟩
  rw [hlA] at hLA
  rw [hlB] at hLB
  have HLA := Lib.hid hLA
  have HLB := Lib.hid hLB
  have HPA := Lib.hid (fun w' (h : Below W.heap.size W w') => npref_any w' ba (preL la) uA (Below.keeps h _ _ cA1) (cA2.below h) (by omega) (by omega))
  have HPB := Lib.hid (fun w' (h : Below W.heap.size W w') => npref_any w' bb (preL lb) uB (Below.keeps h _ _ cB1) (cB2.below h) (by omega) (by omega))
  have HCA := Lib.hid (fun w' u (h : Below W.heap.size W w') (hu : RdU w' u (pti (preL lb))) => ncov_any w' k ba la (preL lb) u (ha.bel h) hu pB1 pB2 k1 k16)
  have HCB := Lib.hid (fun w' u (h : Below W.heap.size W w') (hu : RdU w' u (pti (preL la))) => ncov_any w' k bb lb (preL la) u (hb.bel h) hu pA1 pA2 k1 k16)
  obtain ⟨prA, hprA⟩ : ∃ p, preL la = p := ⟨_, rfl⟩
  obtain ⟨prB, hprB⟩ : ∃ p, preL lb = p := ⟨_, rfl⟩
  rw [hprA] at HPA HCB
  rw [hprB] at HPB HCA
  have HI := Lib.hid hi
  have hE := fun (h1 : lev la = lev lb) (h2 : cov la (preL lb) = true) (w' : World) (h : InvT W B d w') => even_any W w' B k ba bb la lb d hW k1 k16 ha hb h1 h2 h hN ih
  have hORD := apart_any ha hb
  have HAB := Lib.hid (And.intro ha hb)
  have HD := Lib.hid (And.intro hW (And.intro k1 (And.intro k16 hN)))
  have HLV := Lib.hid (And.intro hlA hlB)
  have HPR := Lib.hid (And.intro hprA hprB)
  have hbx : Below w.heap.size w (((w.alloc (.cells #[.func (.func 149) #[] #[.pointer (some ⟨B, 0, none⟩)]] 236)).alloc (.cells #[.pointer (some ⟨ba, 0, none⟩)] 113)).alloc (.cells #[.pointer (some ⟨bb, 0, none⟩)] 113)) := (by repeat (first | exact Below.refl _ _ | (refine Below.drew ?_) | (refine below_drewN' ?_ _) | (refine below_alloc' ?_ _) | (refine Below.setCell ?_ (by first | exact Nat.le_refl _ | (simp; done) | (simp; omega)) _)))
  have he := node_other (ha.bel (hi.bel.trans (hbx.mono hi.bel.size))) (hb.bel (hi.bel.trans (hbx.mono hi.bel.size))) hne
  have HBX := Lib.hid hbx
  have HALA := Lib.hid (fun (w' : World) (d' : List Ch) (h : InvT W B d' w') (hl : d'.length + la.length ≤ 10000) => dAll_any W w' B k (some ba) la d' _ _ as_gone hW ha k1 k16 h hl)
  have HALB := Lib.hid (fun (w' : World) (d' : List Ch) (h : InvT W B d' w') (hl : d'.length + lb.length ≤ 10000) => dAll_any W w' B k (some bb) lb d' _ _ as_come hW hb k1 k16 h hl)
  have L1 := Lib.hid (show d.length + la.length ≤ 10000 from by omega)
  have L2 := Lib.hid (show (d ++ la.map goneC).length + lb.length ≤ 10000 from by rw [List.length_append, List.length_map]; omega)
  have L3 := Lib.hid (show d.length + lb.length ≤ 10000 from by omega)
  have L4 := Lib.hid (show (d ++ lb.map comeC).length + la.length ≤ 10000 from by rw [List.length_append, List.length_map]; omega)
  have HCMP := Lib.hid (fun (w' : World) (u v : Value) (hu : RdU w' u (pti (preL la))) (hv : RdU w' v (pti (preL lb))) => zCmp_any (preL la) (preL lb) u v w' hu hv (by rw [pA1, pB1]) (by omega) (by omega) pA2 pB2)
  obtain ⟨z, hz0⟩ : ∃ z, Zb.cmp (preL la) (preL lb) = z := ⟨_, rfl⟩
  rw [hz0] at HCMP hORD
  rw [hprA, hprB] at HCMP
  rw [hprA, hprB] at hORD
  rw [hprB] at hE
  obtain ⟨adr, hadr⟩ : ∃ a, Zb.addr (preL lb) (lev la - 1) = a := ⟨_, rfl⟩
  have hADR := fun (w' : World) (u : Value) (hu : RdU w' u (pti (preL lb))) => zAddr_any (preL lb) (lev la - 1) u w' hu (by rw [pB1]; omega) (by rw [pB1]; omega) pB2 (by obtain ⟨s, n, pre, ks, h1, h2, h3, h4, h5, h6, h7⟩ := lev_pos_node ha (by omega); have := h4.n64; omega)
  rw [hadr] at hADR
  rw [show ((lev la - 1 : Nat) : Int) = lvA from by omega] at hADR
  have HADR := Lib.hid hADR
  rw [hprB] at HADR
  clear hADR
  have HG0 := Lib.hid (show ¬ lvA = lvB ∧ (lvA == lvB) = false from ⟨by omega, by simp; omega⟩)
  have HCM := Lib.hid (show lvA > lvB ∧ decide (lvA > lvB) = true from ⟨by omega, by simp; omega⟩)
  have HG2 := Lib.hid (show ¬ lvB > lvA ∧ decide (lvB > lvA) = false from ⟨by omega, by simp; omega⟩)
  obtain ⟨cv, hcv⟩ : ∃ cv, cov la prB = cv := ⟨_, rfl⟩
  have hbes := fun (h : cv = true) (w' : World) (sb ab bx : Nat) (hs : BoS W w B sb ab bx ba bb d w') (hn : sb ≠ B ∧ ab ≠ B ∧ bx ≠ B) => bes_gone W w w' B k ba bb sb ab bx la lb d hW k1 k16 ha hb hlv (by rw [hprB, hcv, h]) hs hn hN ih
  rw [hadr] at hbes
  rw [hcv] at HCA hORD
  have HBES := Lib.hid hbes
  have HOR := Lib.hid (fun (h : cv = false) => hORD (Or.inl ⟨Nat.le_of_lt hlv, h⟩))
  clear hadr
  clear hlv ha hb hne hi hN hW k1 k16 hhA hhB pA1 pA2 pA3 pB1 pB2 pB3 cA1 cA2 cB1 cB2 hLA hLB hlA hlB hprA hprB hbx hE hORD ih hz0 hcv hbes
  go_enter Tryz.func150, Tryz.ntmps150
  go_wp2_with fail
  have hBl := Exists.choose_spec (InvT.blkB HI.out)
  have HBS := Lib.hid (lt_of_block hBl)
  have hs0 : (((w.alloc (.cells #[.func (.func 149) #[] #[.pointer (some ⟨B, 0, none⟩)]] 236)).alloc (.cells #[.pointer (some ⟨ba, 0, none⟩)] 113)).alloc (.cells #[.pointer (some ⟨bb, 0, none⟩)] 113)).heap[w.heap.size]? = some (.cells #[.func (.func 149) #[] #[.pointer (some ⟨B, 0, none⟩)]] 236 (0, 0)) := (((by repeat (first | exact Below.refl _ _ | (refine Below.drew ?_) | (refine below_drewN' ?_ _) | (refine below_alloc' ?_ _) | (refine Below.setCell ?_ (by first | exact Nat.le_refl _ | (simp; done) | (simp; omega)) _))) : Below (w.alloc (.cells #[.func (.func 149) #[] #[.pointer (some ⟨B, 0, none⟩)]] 236)).heap.size (w.alloc (.cells #[.func (.func 149) #[] #[.pointer (some ⟨B, 0, none⟩)]] 236)) _).block _ (by simp)).trans (alloc_blk _ _)
  have ha0 : (((w.alloc (.cells #[.func (.func 149) #[] #[.pointer (some ⟨B, 0, none⟩)]] 236)).alloc (.cells #[.pointer (some ⟨ba, 0, none⟩)] 113)).alloc (.cells #[.pointer (some ⟨bb, 0, none⟩)] 113)).heap[w.heap.size + 1]? = some (.cells #[.pointer (some ⟨ba, 0, none⟩)] 113 (0, 0)) := (((by repeat (first | exact Below.refl _ _ | (refine Below.drew ?_) | (refine below_drewN' ?_ _) | (refine below_alloc' ?_ _) | (refine Below.setCell ?_ (by first | exact Nat.le_refl _ | (simp; done) | (simp; omega)) _))) : Below ((w.alloc (.cells #[.func (.func 149) #[] #[.pointer (some ⟨B, 0, none⟩)]] 236)).alloc (.cells #[.pointer (some ⟨ba, 0, none⟩)] 113)).heap.size ((w.alloc (.cells #[.func (.func 149) #[] #[.pointer (some ⟨B, 0, none⟩)]] 236)).alloc (.cells #[.pointer (some ⟨ba, 0, none⟩)] 113)) _).block _ (by simp)).trans (by have := alloc_blk (w.alloc (.cells #[.func (.func 149) #[] #[.pointer (some ⟨B, 0, none⟩)]] 236)) (.cells #[.pointer (some ⟨ba, 0, none⟩)] 113); simpa using this)
  have hb0 : (((w.alloc (.cells #[.func (.func 149) #[] #[.pointer (some ⟨B, 0, none⟩)]] 236)).alloc (.cells #[.pointer (some ⟨ba, 0, none⟩)] 113)).alloc (.cells #[.pointer (some ⟨bb, 0, none⟩)] 113)).heap[w.heap.size + 1 + 1]? = some (.cells #[.pointer (some ⟨bb, 0, none⟩)] 113 (0, 0)) := by have := alloc_blk ((w.alloc (.cells #[.func (.func 149) #[] #[.pointer (some ⟨B, 0, none⟩)]] 236)).alloc (.cells #[.pointer (some ⟨ba, 0, none⟩)] 113)) (.cells #[.pointer (some ⟨bb, 0, none⟩)] 113); simpa using this
  have HBW0 := Lib.hid (HI.out.bel.trans (HBX.out.mono HI.out.bel.size))
  have HIX := Lib.hid (HI.out.step HBX.out)
  have HKX := Lib.hid (Kp.of (B := B) HBX.out)
  obtain ⟨sb, hsb⟩ : ∃ sb, w.heap.size = sb := ⟨_, rfl⟩
  obtain ⟨ab, hab⟩ : ∃ ab, w.heap.size + 1 = ab := ⟨_, rfl⟩
  obtain ⟨bx, hbxx⟩ : ∃ bx, w.heap.size + 1 + 1 = bx := ⟨_, rfl⟩
  have HNB := Lib.hid (show sb ≠ B ∧ ab ≠ B ∧ bx ≠ B from by have := HBS.out; omega)
  rw [hsb] at hs0
  rw [hab] at ha0
  rw [hbxx] at hb0
  rw [hbxx, hab, hsb]
  clear hsb hab hbxx he HBX hBl
  generalize ((w.alloc (.cells #[.func (.func 149) #[] #[.pointer (some ⟨B, 0, none⟩)]] 236)).alloc (.cells #[.pointer (some ⟨ba, 0, none⟩)] 113)).alloc (.cells #[.pointer (some ⟨bb, 0, none⟩)] 113) = wx at *
  have HS := Lib.hid (show BoS W w B sb ab bx ba bb d wx from ⟨HBW0.out, HIX.out, HKX.out, hs0, ha0, hb0⟩)
  clear hs0 ha0 hb0 HBW0 HIX HKX HBS
  have HN3 := HNB
  clear HNB
  have hg := HG0.out.1
  have hgb := HG0.out.2
  have HBW := Lib.hid HS.out.bel
  have kA := cell_of_one HS.out.ha
  have kB := cell_of_one HS.out.hb
  have kS := cell_of_one HS.out.hs
  have lA := lt_of_block HS.out.ha
  have lB := lt_of_block HS.out.hb
  have lS := lt_of_block HS.out.hs
  go_wp2_with fail
  go_quiet ((go_at_call 121; first | with_reducible exact Calls.quiet_of_same (HLA.out _ (below_drewN' HBW.out _)) | with_reducible exact Calls.quiet_of_same (HLB.out _ (below_drewN' HBW.out _))))
  go_wp2_with fail
  refine stayC ?_
  intro wq hwq
  have HS2 := Lib.hid (HS.out.step (show Below _ _ wq from by rw [hwq]; exact (by repeat (first | exact Below.refl _ _ | (refine below_drewN' ?_ _)))))
  clear hwq HS HBW kA kB kS lA lB lS
  have HS := Lib.hid HS2.out
  clear HS2
  clear hg hgb HG0
  go_wp2_with fail
  have hcmp := HCM.out.1
  have hcmpb := HCM.out.2
  have HBW := Lib.hid HS.out.bel
  have kA := cell_of_one HS.out.ha
  have kB := cell_of_one HS.out.hb
  have kS := cell_of_one HS.out.hs
  have lA := lt_of_block HS.out.ha
  have lB := lt_of_block HS.out.hb
  have lS := lt_of_block HS.out.hs
  refine wp_region_vals 10 [fun z9 _ => z9 = .pointer (some ⟨ba, 0, none⟩),
    fun z9 _ => z9 = .int .i64 lvA,
    fun z9 _ => z9 = .pointer (some ⟨bb, 0, none⟩),
    fun z9 _ => z9 = .int .i64 lvB,
    fun z9 _ => z9 = .bool true,
    fun z9 _ => z9 = .bool true,
    fun z9 _ => z9 = .pointer (some ⟨ba, 0, none⟩),
    fun z9 _ => z9 = .pointer (some ⟨bb, 0, none⟩),
    fun v9 w9 => PtNew w9 v9 prB,
    fun z9 _ => z9 = .bool cv]
    (by kernel_rfl) (by kernel_rfl) (by kernel_rfl) (by kernel_rfl) ?_ ?_ ?_
  · intro V hV v w1 w2 h hb
    simp only [List.mem_cons, List.not_mem_nil, or_false] at hV
    rcases hV with rfl | rfl | rfl | rfl | rfl | rfl | rfl | rfl | rfl | rfl
    all_goals first | exact h | (exact PtNew.below h hb)
  · intro iq oq hiq hoq
    match iq, hiq with
    | 0, _ =>
    obtain rfl := Option.some.inj hoq
    intro a1 w1 K hk hK
    have e4 : a1.tmps.getD 4 undef = .pointer (some ⟨ab, 0, none⟩) := hk.same 4 (by simp)
    have c0 : w1.cell? ⟨ab, 0, none⟩ = some (.pointer (some ⟨ba, 0, none⟩)) := Below.keeps hk.ext _ _ (by simp [go_sem, kA, kB, hcmp, hcmpb])
    have c1 : w1.cell? ⟨bx, 0, none⟩ = some (.pointer (some ⟨bb, 0, none⟩)) := Below.keeps hk.ext _ _ (by simp [go_sem, kA, kB, hcmp, hcmpb])
    simp [Region.wanted, Oper.wp, Act.eval, go_sem, e4, c0, c1, kA, kB, hcmp, hcmpb]
    exact hK _ _ (Below.refl _ _) rfl
    | 1, _ =>
    obtain rfl := Option.some.inj hoq
    intro a1 w1 K hk hK
    have d67 : a1.tmps.getD 67 undef = .pointer (some ⟨ba, 0, none⟩) := hk.deps ⟨0, .data⟩ (by simp) rfl _ _ rfl rfl
    simp [Region.wanted, Oper.wp, Act.eval, go_sem, d67, kA, kB, hcmp, hcmpb]
    refine (HLA.out _ (HBW.out.trans ((below_trans (by repeat (first | exact Below.refl _ _ | (refine Below.drew ?_) | (refine below_drewN' ?_ _) | (refine below_alloc' ?_ _) | (refine Below.setCell ?_ (by first | exact Nat.le_refl _ | (simp; done) | (simp; omega)) _))) hk.ext).mono HBW.out.size))).mono ?_
    rintro e w9 ⟨rfl, hw9⟩
    exact hK _ _ (by rw [hw9]; exact Below.refl _ _) rfl
    | 2, _ =>
    obtain rfl := Option.some.inj hoq
    intro a1 w1 K hk hK
    have e5 : a1.tmps.getD 5 undef = .pointer (some ⟨bx, 0, none⟩) := hk.same 5 (by simp)
    have c0 : w1.cell? ⟨ab, 0, none⟩ = some (.pointer (some ⟨ba, 0, none⟩)) := Below.keeps hk.ext _ _ (by simp [go_sem, kA, kB, hcmp, hcmpb])
    have c1 : w1.cell? ⟨bx, 0, none⟩ = some (.pointer (some ⟨bb, 0, none⟩)) := Below.keeps hk.ext _ _ (by simp [go_sem, kA, kB, hcmp, hcmpb])
    simp [Region.wanted, Oper.wp, Act.eval, go_sem, e5, c0, c1, kA, kB, hcmp, hcmpb]
    exact hK _ _ (Below.refl _ _) rfl
    | 3, _ =>
    obtain rfl := Option.some.inj hoq
    intro a1 w1 K hk hK
    have d69 : a1.tmps.getD 69 undef = .pointer (some ⟨bb, 0, none⟩) := hk.deps ⟨2, .data⟩ (by simp) rfl _ _ rfl rfl
    simp [Region.wanted, Oper.wp, Act.eval, go_sem, d69, kA, kB, hcmp, hcmpb]
    refine (HLB.out _ (HBW.out.trans ((below_trans (by repeat (first | exact Below.refl _ _ | (refine Below.drew ?_) | (refine below_drewN' ?_ _) | (refine below_alloc' ?_ _) | (refine Below.setCell ?_ (by first | exact Nat.le_refl _ | (simp; done) | (simp; omega)) _))) hk.ext).mono HBW.out.size))).mono ?_
    rintro e w9 ⟨rfl, hw9⟩
    exact hK _ _ (by rw [hw9]; exact Below.refl _ _) rfl
    | 4, _ =>
    obtain rfl := Option.some.inj hoq
    intro a1 w1 K hk hK
    have d68 : a1.tmps.getD 68 undef = .int .i64 lvA := hk.deps ⟨1, .data⟩ (by simp) rfl _ _ rfl rfl
    have d70 : a1.tmps.getD 70 undef = .int .i64 lvB := hk.deps ⟨3, .data⟩ (by simp) rfl _ _ rfl rfl
    simp [Region.wanted, Oper.wp, Act.eval, go_sem, d68, d70, kA, kB, hcmp, hcmpb]
    exact hK _ _ (Below.refl _ _) rfl
    | 5, _ =>
    obtain rfl := Option.some.inj hoq
    intro a1 w1 K hk hK
    have d71 : a1.tmps.getD 71 undef = .bool true := hk.deps ⟨4, .data⟩ (by simp) rfl _ _ rfl rfl
    simp [Region.wanted, Oper.wp, Act.eval, go_sem, d71, kA, kB, hcmp, hcmpb]
    exact hK _ _ (Below.refl _ _) rfl
    | 6, _ =>
    obtain rfl := Option.some.inj hoq
    intro a1 w1 K hk hK
    have e4 : a1.tmps.getD 4 undef = .pointer (some ⟨ab, 0, none⟩) := hk.same 4 (by simp)
    have gd : a1.tmps[72]? = some (.bool true) := getD_bool (hk.deps ⟨5, .guard⟩ (by simp) rfl _ _ rfl rfl)
    have c0 : w1.cell? ⟨ab, 0, none⟩ = some (.pointer (some ⟨ba, 0, none⟩)) := Below.keeps hk.ext _ _ (by simp [go_sem, kA, kB, hcmp, hcmpb])
    have c1 : w1.cell? ⟨bx, 0, none⟩ = some (.pointer (some ⟨bb, 0, none⟩)) := Below.keeps hk.ext _ _ (by simp [go_sem, kA, kB, hcmp, hcmpb])
    simp [Region.wanted, Oper.wp, Act.eval, go_sem, e4, gd, yielded, c0, c1, kA, kB, hcmp, hcmpb]
    exact hK _ _ (Below.refl _ _) rfl
    | 7, _ =>
    obtain rfl := Option.some.inj hoq
    intro a1 w1 K hk hK
    have e5 : a1.tmps.getD 5 undef = .pointer (some ⟨bx, 0, none⟩) := hk.same 5 (by simp)
    have gd : a1.tmps[72]? = some (.bool true) := getD_bool (hk.deps ⟨5, .guard⟩ (by simp) rfl _ _ rfl rfl)
    have c0 : w1.cell? ⟨ab, 0, none⟩ = some (.pointer (some ⟨ba, 0, none⟩)) := Below.keeps hk.ext _ _ (by simp [go_sem, kA, kB, hcmp, hcmpb])
    have c1 : w1.cell? ⟨bx, 0, none⟩ = some (.pointer (some ⟨bb, 0, none⟩)) := Below.keeps hk.ext _ _ (by simp [go_sem, kA, kB, hcmp, hcmpb])
    simp [Region.wanted, Oper.wp, Act.eval, go_sem, e5, gd, yielded, c0, c1, kA, kB, hcmp, hcmpb]
    exact hK _ _ (Below.refl _ _) rfl
    | 8, _ =>
    obtain rfl := Option.some.inj hoq
    intro a1 w1 K hk hK
    have d74 : a1.tmps.getD 74 undef = .pointer (some ⟨bb, 0, none⟩) := hk.deps ⟨7, .data⟩ (by simp) rfl _ _ rfl rfl
    have gd : a1.tmps[72]? = some (.bool true) := getD_bool (hk.deps ⟨5, .guard⟩ (by simp) rfl _ _ rfl rfl)
    simp [Region.wanted, Oper.wp, Act.eval, go_sem, d74, gd, yielded, kA, kB, hcmp, hcmpb]
    refine (HPB.out _ (HBW.out.trans ((below_trans (by repeat (first | exact Below.refl _ _ | (refine Below.drew ?_) | (refine below_drewN' ?_ _) | (refine below_alloc' ?_ _) | (refine Below.setCell ?_ (by first | exact Nat.le_refl _ | (simp; done) | (simp; omega)) _))) hk.ext).mono HBW.out.size))).mono ?_
    rintro e w9 ⟨u9, rfl, h9, hb9⟩
    exact hK _ _ hb9 h9
    | 9, _ =>
    obtain rfl := Option.some.inj hoq
    intro a1 w1 K hk hK
    have d73 : a1.tmps.getD 73 undef = .pointer (some ⟨ba, 0, none⟩) := hk.deps ⟨6, .data⟩ (by simp) rfl _ _ rfl rfl
    have D75 : PtNew w1 (a1.tmps.getD 75 undef) prB := hk.deps ⟨8, .data⟩ (by simp) rfl _ _ rfl rfl
    have gd : a1.tmps[72]? = some (.bool true) := getD_bool (hk.deps ⟨5, .guard⟩ (by simp) rfl _ _ rfl rfl)
    obtain ⟨A9, c9, eP, _⟩ := RdU.point D75.rd
    have ePx : a1.tmps[75]?.getD undef = .slice A9 prB.length c9 := by rw [← eP]; simp
    rw [eP] at D75
    simp [Region.wanted, Oper.wp, Act.eval, go_sem, d73, eP, ePx, gd, yielded, kA, kB]
    refine (HCA.out _ _ (HBW.out.trans ((below_trans (by repeat (first | exact Below.refl _ _ | (refine Below.drew ?_) | (refine below_drewN' ?_ _) | (refine below_alloc' ?_ _) | (refine Below.setCell ?_ (by first | exact Nat.le_refl _ | (simp; done) | (simp; omega)) _))) hk.ext).mono HBW.out.size)) D75.rd).mono ?_
    rintro e w9 ⟨rfl, hw9⟩
    exact hK _ _ (by rw [hw9]; exact Below.refl _ _) rfl
  · intro vs w3 hl hb3 hv
    match vs, hl with
    | [v0, v1, v2, v3, v4, v5, v6, v7, v8, v9], _ =>
    obtain rfl : v0 = .pointer (some ⟨ba, 0, none⟩) := hv 0 (by omega)
    obtain rfl : v1 = .int .i64 lvA := hv 1 (by omega)
    obtain rfl : v2 = .pointer (some ⟨bb, 0, none⟩) := hv 2 (by omega)
    obtain rfl : v3 = .int .i64 lvB := hv 3 (by omega)
    obtain rfl : v4 = .bool true := hv 4 (by omega)
    obtain rfl : v5 = .bool true := hv 5 (by omega)
    obtain rfl : v6 = .pointer (some ⟨ba, 0, none⟩) := hv 6 (by omega)
    obtain rfl : v7 = .pointer (some ⟨bb, 0, none⟩) := hv 7 (by omega)
    have q8 : PtNew w3 v8 prB := hv 8 (by omega)
    obtain rfl : v9 = .bool cv := hv 9 (by omega)
    clear hv
    simp only [putAll, List.take_succ_cons, List.take_zero, List.drop_succ_cons, List.drop_zero, Act.put, List.setIfInBounds_toArray, List.set_cons_succ, List.set_cons_zero]
    have HS2 := Lib.hid (HS.out.step hb3)
    clear hb3 HS HBW kA kB kS lA lB lS
    have HS := Lib.hid HS2.out
    clear HS2
    clear q8
    clear hcmp hcmpb HCM
    cases cv with
    | true =>
      go_wp2_with fail
      have HBW := Lib.hid HS.out.bel
      have kA := cell_of_one HS.out.ha
      have kB := cell_of_one HS.out.hb
      have kS := cell_of_one HS.out.hs
      have lA := lt_of_block HS.out.ha
      have lB := lt_of_block HS.out.hb
      have lS := lt_of_block HS.out.hs
      refine wp_region_vals 9 [fun z9 _ => z9 = .pointer (some ⟨bb, 0, none⟩),
        fun v9 w9 => PtNew w9 v9 prB,
        fun z9 _ => z9 = .pointer (some ⟨ba, 0, none⟩),
        fun z9 _ => z9 = .int .i64 lvA,
        fun z9 _ => z9 = .tuple #[.int .i64 (adr : Nat), .int .i64 0],
        fun z9 _ => z9 = .tuple #[.int .i64 (adr : Nat), .int .i64 0],
        fun z9 _ => z9 = .int .i64 (adr : Nat),
        fun z9 _ => z9 = .int .i64 0,
        fun z9 _ => z9 = .int .i64 (adr : Nat)]
        (by kernel_rfl) (by kernel_rfl) (by kernel_rfl) (by kernel_rfl) ?_ ?_ ?_
      · intro V hV v w1 w2 h hb
        simp only [List.mem_cons, List.not_mem_nil, or_false] at hV
        rcases hV with rfl | rfl | rfl | rfl | rfl | rfl | rfl | rfl | rfl
        all_goals first | exact h | (exact PtNew.below h hb)
      · intro iq oq hiq hoq
        match iq, hiq with
        | 0, _ =>
        obtain rfl := Option.some.inj hoq
        intro a1 w1 K hk hK
        have e5 : a1.tmps.getD 5 undef = .pointer (some ⟨bx, 0, none⟩) := hk.same 5 (by simp)
        have c0 : w1.cell? ⟨ab, 0, none⟩ = some (.pointer (some ⟨ba, 0, none⟩)) := Below.keeps hk.ext _ _ (by simp [go_sem, kA, kB])
        have c1 : w1.cell? ⟨bx, 0, none⟩ = some (.pointer (some ⟨bb, 0, none⟩)) := Below.keeps hk.ext _ _ (by simp [go_sem, kA, kB])
        simp [Region.wanted, Oper.wp, Act.eval, go_sem, e5, c0, c1, kA, kB]
        exact hK _ _ (Below.refl _ _) rfl
        | 1, _ =>
        obtain rfl := Option.some.inj hoq
        intro a1 w1 K hk hK
        have d79 : a1.tmps.getD 79 undef = .pointer (some ⟨bb, 0, none⟩) := hk.deps ⟨0, .data⟩ (by simp) rfl _ _ rfl rfl
        simp [Region.wanted, Oper.wp, Act.eval, go_sem, d79, kA, kB]
        refine (HPB.out _ (HBW.out.trans ((below_trans (by repeat (first | exact Below.refl _ _ | (refine Below.drew ?_) | (refine below_drewN' ?_ _) | (refine below_alloc' ?_ _) | (refine Below.setCell ?_ (by first | exact Nat.le_refl _ | (simp; done) | (simp; omega)) _))) hk.ext).mono HBW.out.size))).mono ?_
        rintro e w9 ⟨u9, rfl, h9, hb9⟩
        exact hK _ _ hb9 h9
        | 2, _ =>
        obtain rfl := Option.some.inj hoq
        intro a1 w1 K hk hK
        have e4 : a1.tmps.getD 4 undef = .pointer (some ⟨ab, 0, none⟩) := hk.same 4 (by simp)
        have c0 : w1.cell? ⟨ab, 0, none⟩ = some (.pointer (some ⟨ba, 0, none⟩)) := Below.keeps hk.ext _ _ (by simp [go_sem, kA, kB])
        have c1 : w1.cell? ⟨bx, 0, none⟩ = some (.pointer (some ⟨bb, 0, none⟩)) := Below.keeps hk.ext _ _ (by simp [go_sem, kA, kB])
        simp [Region.wanted, Oper.wp, Act.eval, go_sem, e4, c0, c1, kA, kB]
        exact hK _ _ (Below.refl _ _) rfl
        | 3, _ =>
        obtain rfl := Option.some.inj hoq
        intro a1 w1 K hk hK
        have d81 : a1.tmps.getD 81 undef = .pointer (some ⟨ba, 0, none⟩) := hk.deps ⟨2, .data⟩ (by simp) rfl _ _ rfl rfl
        simp [Region.wanted, Oper.wp, Act.eval, go_sem, d81, kA, kB]
        refine (HLA.out _ (HBW.out.trans ((below_trans (by repeat (first | exact Below.refl _ _ | (refine Below.drew ?_) | (refine below_drewN' ?_ _) | (refine below_alloc' ?_ _) | (refine Below.setCell ?_ (by first | exact Nat.le_refl _ | (simp; done) | (simp; omega)) _))) hk.ext).mono HBW.out.size))).mono ?_
        rintro e w9 ⟨rfl, hw9⟩
        exact hK _ _ (by rw [hw9]; exact Below.refl _ _) rfl
        | 4, _ =>
        obtain rfl := Option.some.inj hoq
        intro a1 w1 K hk hK
        have D80 : PtNew w1 (a1.tmps.getD 80 undef) prB := hk.deps ⟨1, .data⟩ (by simp) rfl _ _ rfl rfl
        have d82 : a1.tmps.getD 82 undef = .int .i64 lvA := hk.deps ⟨3, .data⟩ (by simp) rfl _ _ rfl rfl
        obtain ⟨AP, cP, eP, _⟩ := RdU.point D80.rd
        have ePx : a1.tmps[80]?.getD undef = .slice AP prB.length cP := by rw [← eP]; simp
        rw [eP] at D80
        simp [Region.wanted, Oper.wp, Act.eval, go_sem, d82, eP, ePx, kA, kB]
        refine (HADR.out _ _ D80.rd).mono ?_
        rintro e w9 ⟨rfl, hw9⟩
        exact hK _ _ (by rw [hw9]; exact Below.refl _ _) rfl
        | 5, _ =>
        obtain rfl := Option.some.inj hoq
        intro a1 w1 K hk hK
        have d83 : a1.tmps.getD 83 undef = .tuple #[.int .i64 (adr : Nat), .int .i64 0] := hk.deps ⟨4, .data⟩ (by simp) rfl _ _ rfl rfl
        simp [Region.wanted, Oper.wp, Act.eval, go_sem, d83, kA, kB]
        exact hK _ _ (Below.refl _ _) rfl
        | 6, _ =>
        obtain rfl := Option.some.inj hoq
        intro a1 w1 K hk hK
        have d78 : a1.tmps.getD 78 undef = .tuple #[.int .i64 (adr : Nat), .int .i64 0] := hk.deps ⟨5, .data⟩ (by simp) rfl _ _ rfl rfl
        simp [Region.wanted, Oper.wp, Act.eval, go_sem, d78, kA, kB]
        exact hK _ _ (Below.refl _ _) rfl
        | 7, _ =>
        obtain rfl := Option.some.inj hoq
        intro a1 w1 K hk hK
        have d78 : a1.tmps.getD 78 undef = .tuple #[.int .i64 (adr : Nat), .int .i64 0] := hk.deps ⟨5, .data⟩ (by simp) rfl _ _ rfl rfl
        simp [Region.wanted, Oper.wp, Act.eval, go_sem, d78, kA, kB]
        exact hK _ _ (Below.refl _ _) rfl
        | 8, _ =>
        obtain rfl := Option.some.inj hoq
        intro a1 w1 K hk hK
        have d84 : a1.tmps.getD 84 undef = .int .i64 (adr : Nat) := hk.deps ⟨6, .data⟩ (by simp) rfl _ _ rfl rfl
        simp [Region.wanted, Oper.wp, Act.eval, go_sem, d84, kA, kB]
        exact hK _ _ (Below.refl _ _) rfl
      · intro vs w3 hl hb3 hv
        match vs, hl with
        | [v0, v1, v2, v3, v4, v5, v6, v7, v8], _ =>
        obtain rfl : v0 = .pointer (some ⟨bb, 0, none⟩) := hv 0 (by omega)
        have q1 : PtNew w3 v1 prB := hv 1 (by omega)
        obtain rfl : v2 = .pointer (some ⟨ba, 0, none⟩) := hv 2 (by omega)
        obtain rfl : v3 = .int .i64 lvA := hv 3 (by omega)
        obtain rfl : v4 = .tuple #[.int .i64 (adr : Nat), .int .i64 0] := hv 4 (by omega)
        obtain rfl : v5 = .tuple #[.int .i64 (adr : Nat), .int .i64 0] := hv 5 (by omega)
        obtain rfl : v6 = .int .i64 (adr : Nat) := hv 6 (by omega)
        obtain rfl : v7 = .int .i64 0 := hv 7 (by omega)
        obtain rfl : v8 = .int .i64 (adr : Nat) := hv 8 (by omega)
        clear hv
        simp only [putAll, List.take_succ_cons, List.take_zero, List.drop_succ_cons, List.drop_zero, Act.put, List.setIfInBounds_toArray, List.set_cons_succ, List.set_cons_zero]
        have HS2 := Lib.hid (HS.out.step hb3)
        clear hb3 HS HBW kA kB kS lA lB lS
        have HS := Lib.hid HS2.out
        clear HS2
        clear q1
        have HBW := Lib.hid HS.out.bel
        have kA := cell_of_one HS.out.ha
        have kB := cell_of_one HS.out.hb
        have kS := cell_of_one HS.out.hs
        have lA := lt_of_block HS.out.ha
        have lB := lt_of_block HS.out.hb
        have lS := lt_of_block HS.out.hs
        have HBS := Lib.hid (HBES.out (by first | trivial | rfl) _ _ _ _ HS.out HN3.out)
        go_wp2_with fail
        refine HBS.out.mono ?_
        rintro e w7 ⟨rfl, hi7, hk7⟩
        have HF := Lib.hid (And.intro hi7 (HS.out.kp.trans hk7))
        clear hi7 hk7
        go_wp2_with fail
        go_end0
        exact ⟨rfl, HF.out⟩
    | false =>
      have HORD := Lib.hid (HOR.out rfl)
      clear HOR
      have hg := HG2.out.1
      have hgb := HG2.out.2
      have HBW := Lib.hid HS.out.bel
      have kA := cell_of_one HS.out.ha
      have kB := cell_of_one HS.out.hb
      have kS := cell_of_one HS.out.hs
      have lA := lt_of_block HS.out.ha
      have lB := lt_of_block HS.out.hb
      have lS := lt_of_block HS.out.hs
      go_wp2_with fail
      go_quiet ((go_at_call 121; first | with_reducible exact Calls.quiet_of_same (HLA.out _ (below_drewN' HBW.out _)) | with_reducible exact Calls.quiet_of_same (HLB.out _ (below_drewN' HBW.out _))))
      go_wp2_with fail
      refine stayC ?_
      intro wq hwq
      have HS2 := Lib.hid (HS.out.step (show Below _ _ wq from by rw [hwq]; exact (by repeat (first | exact Below.refl _ _ | (refine below_drewN' ?_ _)))))
      clear hwq HS HBW kA kB kS lA lB lS
      have HS := Lib.hid HS2.out
      clear HS2
      clear hg hgb HG2
      go_wp2_with fail
      have HBW := Lib.hid HS.out.bel
      have kA := cell_of_one HS.out.ha
      have kB := cell_of_one HS.out.hb
      have kS := cell_of_one HS.out.hs
      have lA := lt_of_block HS.out.ha
      have lB := lt_of_block HS.out.hb
      have lS := lt_of_block HS.out.hs
      refine wp_region_vals 9 [fun z9 _ => z9 = .pointer (some ⟨ba, 0, none⟩),
        fun v9 w9 => PtNew w9 v9 prA,
        fun z9 _ => z9 = .pointer (some ⟨bb, 0, none⟩),
        fun v9 w9 => PtNew w9 v9 prB,
        fun z9 _ => z9 = .tuple #[.int .i64 z, .int .i64 0],
        fun z9 _ => z9 = .tuple #[.int .i64 z, .int .i64 0],
        fun z9 _ => z9 = .int .i64 z,
        fun z9 _ => z9 = .int .i64 0,
        fun z9 _ => z9 = .int .i64 z]
        (by kernel_rfl) (by kernel_rfl) (by kernel_rfl) (by kernel_rfl) ?_ ?_ ?_
      · intro V hV v w1 w2 h hb
        simp only [List.mem_cons, List.not_mem_nil, or_false] at hV
        rcases hV with rfl | rfl | rfl | rfl | rfl | rfl | rfl | rfl | rfl
        all_goals first | exact h | (exact PtNew.below h hb)
      · intro iq oq hiq hoq
        match iq, hiq with
        | 0, _ =>
        obtain rfl := Option.some.inj hoq
        intro a1 w1 K hk hK
        have e4 : a1.tmps.getD 4 undef = .pointer (some ⟨ab, 0, none⟩) := hk.same 4 (by simp)
        have c0 : w1.cell? ⟨ab, 0, none⟩ = some (.pointer (some ⟨ba, 0, none⟩)) := Below.keeps hk.ext _ _ (by simp [go_sem, kA, kB])
        have c1 : w1.cell? ⟨bx, 0, none⟩ = some (.pointer (some ⟨bb, 0, none⟩)) := Below.keeps hk.ext _ _ (by simp [go_sem, kA, kB])
        simp [Region.wanted, Oper.wp, Act.eval, go_sem, e4, c0, c1, kA, kB]
        exact hK _ _ (Below.refl _ _) rfl
        | 1, _ =>
        obtain rfl := Option.some.inj hoq
        intro a1 w1 K hk hK
        have d13 : a1.tmps.getD 13 undef = .pointer (some ⟨ba, 0, none⟩) := hk.deps ⟨0, .data⟩ (by simp) rfl _ _ rfl rfl
        simp [Region.wanted, Oper.wp, Act.eval, go_sem, d13, kA, kB]
        refine (HPA.out _ (HBW.out.trans ((below_trans (by repeat (first | exact Below.refl _ _ | (refine Below.drew ?_) | (refine below_drewN' ?_ _) | (refine below_alloc' ?_ _) | (refine Below.setCell ?_ (by first | exact Nat.le_refl _ | (simp; done) | (simp; omega)) _))) hk.ext).mono HBW.out.size))).mono ?_
        rintro e w9 ⟨u9, rfl, h9, hb9⟩
        exact hK _ _ hb9 h9
        | 2, _ =>
        obtain rfl := Option.some.inj hoq
        intro a1 w1 K hk hK
        have e5 : a1.tmps.getD 5 undef = .pointer (some ⟨bx, 0, none⟩) := hk.same 5 (by simp)
        have c0 : w1.cell? ⟨ab, 0, none⟩ = some (.pointer (some ⟨ba, 0, none⟩)) := Below.keeps hk.ext _ _ (by simp [go_sem, kA, kB])
        have c1 : w1.cell? ⟨bx, 0, none⟩ = some (.pointer (some ⟨bb, 0, none⟩)) := Below.keeps hk.ext _ _ (by simp [go_sem, kA, kB])
        simp [Region.wanted, Oper.wp, Act.eval, go_sem, e5, c0, c1, kA, kB]
        exact hK _ _ (Below.refl _ _) rfl
        | 3, _ =>
        obtain rfl := Option.some.inj hoq
        intro a1 w1 K hk hK
        have d15 : a1.tmps.getD 15 undef = .pointer (some ⟨bb, 0, none⟩) := hk.deps ⟨2, .data⟩ (by simp) rfl _ _ rfl rfl
        simp [Region.wanted, Oper.wp, Act.eval, go_sem, d15, kA, kB]
        refine (HPB.out _ (HBW.out.trans ((below_trans (by repeat (first | exact Below.refl _ _ | (refine Below.drew ?_) | (refine below_drewN' ?_ _) | (refine below_alloc' ?_ _) | (refine Below.setCell ?_ (by first | exact Nat.le_refl _ | (simp; done) | (simp; omega)) _))) hk.ext).mono HBW.out.size))).mono ?_
        rintro e w9 ⟨u9, rfl, h9, hb9⟩
        exact hK _ _ hb9 h9
        | 4, _ =>
        obtain rfl := Option.some.inj hoq
        intro a1 w1 K hk hK
        have D14 : PtNew w1 (a1.tmps.getD 14 undef) prA := hk.deps ⟨1, .data⟩ (by simp) rfl _ _ rfl rfl
        have D16 : PtNew w1 (a1.tmps.getD 16 undef) prB := hk.deps ⟨3, .data⟩ (by simp) rfl _ _ rfl rfl
        obtain ⟨AP, cP, eP, _⟩ := RdU.point D14.rd
        have ePx : a1.tmps[14]?.getD undef = .slice AP prA.length cP := by rw [← eP]; simp
        rw [eP] at D14
        obtain ⟨AQ, cQ, eQ, _⟩ := RdU.point D16.rd
        have eQx : a1.tmps[16]?.getD undef = .slice AQ prB.length cQ := by rw [← eQ]; simp
        rw [eQ] at D16
        simp [Region.wanted, Oper.wp, Act.eval, go_sem, eP, ePx, eQ, eQx, kA, kB]
        refine (HCMP.out _ _ _ D14.rd D16.rd).mono ?_
        rintro e w9 ⟨rfl, hw9⟩
        exact hK _ _ (by rw [hw9]; exact Below.refl _ _) rfl
        | 5, _ =>
        obtain rfl := Option.some.inj hoq
        intro a1 w1 K hk hK
        have d17 : a1.tmps.getD 17 undef = .tuple #[.int .i64 z, .int .i64 0] := hk.deps ⟨4, .data⟩ (by simp) rfl _ _ rfl rfl
        simp [Region.wanted, Oper.wp, Act.eval, go_sem, d17, kA, kB]
        exact hK _ _ (Below.refl _ _) rfl
        | 6, _ =>
        obtain rfl := Option.some.inj hoq
        intro a1 w1 K hk hK
        have d12 : a1.tmps.getD 12 undef = .tuple #[.int .i64 z, .int .i64 0] := hk.deps ⟨5, .data⟩ (by simp) rfl _ _ rfl rfl
        simp [Region.wanted, Oper.wp, Act.eval, go_sem, d12, kA, kB]
        exact hK _ _ (Below.refl _ _) rfl
        | 7, _ =>
        obtain rfl := Option.some.inj hoq
        intro a1 w1 K hk hK
        have d12 : a1.tmps.getD 12 undef = .tuple #[.int .i64 z, .int .i64 0] := hk.deps ⟨5, .data⟩ (by simp) rfl _ _ rfl rfl
        simp [Region.wanted, Oper.wp, Act.eval, go_sem, d12, kA, kB]
        exact hK _ _ (Below.refl _ _) rfl
        | 8, _ =>
        obtain rfl := Option.some.inj hoq
        intro a1 w1 K hk hK
        have d18 : a1.tmps.getD 18 undef = .int .i64 z := hk.deps ⟨6, .data⟩ (by simp) rfl _ _ rfl rfl
        simp [Region.wanted, Oper.wp, Act.eval, go_sem, d18, kA, kB]
        exact hK _ _ (Below.refl _ _) rfl
      · intro vs w3 hl hb3 hv
        match vs, hl with
        | [v0, v1, v2, v3, v4, v5, v6, v7, v8], _ =>
        obtain rfl : v0 = .pointer (some ⟨ba, 0, none⟩) := hv 0 (by omega)
        have q1 : PtNew w3 v1 prA := hv 1 (by omega)
        obtain rfl : v2 = .pointer (some ⟨bb, 0, none⟩) := hv 2 (by omega)
        have q3 : PtNew w3 v3 prB := hv 3 (by omega)
        obtain rfl : v4 = .tuple #[.int .i64 z, .int .i64 0] := hv 4 (by omega)
        obtain rfl : v5 = .tuple #[.int .i64 z, .int .i64 0] := hv 5 (by omega)
        obtain rfl : v6 = .int .i64 z := hv 6 (by omega)
        obtain rfl : v7 = .int .i64 0 := hv 7 (by omega)
        obtain rfl : v8 = .int .i64 z := hv 8 (by omega)
        clear hv
        simp only [putAll, List.take_succ_cons, List.take_zero, List.drop_succ_cons, List.drop_zero, Act.put, List.setIfInBounds_toArray, List.set_cons_succ, List.set_cons_zero]
        have HS2 := Lib.hid (HS.out.step hb3)
        clear hb3 HS HBW kA kB kS lA lB lS
        have HS := Lib.hid HS2.out
        clear HS2
        clear q1 q3
        by_cases hz : z < 0
        · have HE := Lib.hid (HORD.out.1 (by omega))
          have HBW := Lib.hid HS.out.bel
          have kA := cell_of_one HS.out.ha
          have kB := cell_of_one HS.out.hb
          have kS := cell_of_one HS.out.hs
          have lA := lt_of_block HS.out.ha
          have lB := lt_of_block HS.out.hb
          have lS := lt_of_block HS.out.hs
          go_wp2_with fail
          refine (HALA.out _ _ HS.out.inv L1.out).mono ?_
          rintro e w7 ⟨rfl, hi7, hk7⟩
          have HS2 := Lib.hid (HS.out.go HN3.out hi7 hk7)
          clear hi7 hk7 HBW kA kB kS lA lB lS
          have kA := cell_of_one HS2.out.ha
          have kB := cell_of_one HS2.out.hb
          have kS := cell_of_one HS2.out.hs
          have lA := lt_of_block HS2.out.ha
          have lB := lt_of_block HS2.out.hb
          have lS := lt_of_block HS2.out.hs
          go_wp2_with fail
          refine (HALB.out _ _ HS2.out.inv L2.out).mono ?_
          rintro e w8 ⟨rfl, hi8, hk8⟩
          have HF := Lib.hid (And.intro hi8 (HS2.out.kp.trans hk8))
          clear hi8 hk8
          go_wp2_with fail
          go_end0
          rw [HE.out, ← List.append_assoc]
          exact ⟨rfl, HF.out⟩
        · have HE := Lib.hid (HORD.out.2 (by omega))
          have HBW := Lib.hid HS.out.bel
          have kA := cell_of_one HS.out.ha
          have kB := cell_of_one HS.out.hb
          have kS := cell_of_one HS.out.hs
          have lA := lt_of_block HS.out.ha
          have lB := lt_of_block HS.out.hb
          have lS := lt_of_block HS.out.hs
          go_wp2_with fail
          refine (HALB.out _ _ HS.out.inv L3.out).mono ?_
          rintro e w7 ⟨rfl, hi7, hk7⟩
          have HS2 := Lib.hid (HS.out.go HN3.out hi7 hk7)
          clear hi7 hk7 HBW kA kB kS lA lB lS
          have kA := cell_of_one HS2.out.ha
          have kB := cell_of_one HS2.out.hb
          have kS := cell_of_one HS2.out.hs
          have lA := lt_of_block HS2.out.ha
          have lB := lt_of_block HS2.out.hb
          have lS := lt_of_block HS2.out.hs
          go_wp2_with fail
          refine (HALA.out _ _ HS2.out.inv L4.out).mono ?_
          rintro e w8 ⟨rfl, hi8, hk8⟩
          have HF := Lib.hid (And.intro hi8 (HS2.out.kp.trans hk8))
          clear hi8 hk8
          go_wp2_with fail
          go_end0
          rw [HE.out, ← List.append_assoc]
          exact ⟨rfl, HF.out⟩
end Go.Proofs.YtdkomhmciihkiaaGreat
