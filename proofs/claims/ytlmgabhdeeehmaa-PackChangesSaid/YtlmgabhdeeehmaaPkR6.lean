/-
  The walk of pack.ReadChanges.
-/
import Derived.Test.YtlmgabhdeeehmaaPkR5
import Derived.Test.YtlmgabhdeeehmaaRegion3
namespace Go.Proofs.Ytlmgabhdeeehmaa
open Go.RowKit
set_option linter.unusedVariables false
set_option linter.unusedSimpArgs false

theorem OwnC.keepBlock {Pt : Value → List Nat → Prop} {W w w' : World} {v : Value} {l : List Ch} (h : OwnC Pt W w v l) (hk : ∀ (b : Nat) (cur : Array Value) (fr : Nat × Nat), w.heap[b]? = some (.cells cur 114 fr) → w'.heap[b]? = some (.cells cur 114 fr)) : OwnC Pt W w' v l := by
  obtain ⟨cs, ⟨h1, h2⟩, h3⟩ := h
  refine ⟨cs, ⟨h1, ?_⟩, h3⟩
  rcases h2 with h2 | ⟨g, cap, cur, q1, q2, q3, q4⟩
  · exact .inl h2
  · exact .inr ⟨g, cap, cur, q1, q2, hk _ _ _ q3, q4⟩
theorem OwnC.shape2 {Pt : Value → List Nat → Prop} {W w : World} {v : Value} {l : List Ch} (h : OwnC Pt W w v l) : ∃ A c, v = .slice A l.length c ∧ l.length ≤ c := by
  obtain ⟨cs, ⟨h1, h2⟩, h3⟩ := h
  rcases h2 with ⟨rfl, h0⟩ | ⟨g, cap, cur, rfl, q2, q3, q4, _⟩
  · exact ⟨none, 0, by rw [h0], by omega⟩
  · exact ⟨_, _, rfl, q4⟩
theorem InvR.grown {W w w' : World} {G : Nat} {rest : List Nat} {vl : Value} {last : Option (List Nat)} {row : Option Nat} (h : InvR W G rest vl last w) (hg : w.grownBy w' row) (hr : ∀ k, row = some k → W.heap.size ≤ k ∧ ∃ cur fr, w.heap[k]? = some (.cells cur 114 fr)) : InvR W G rest vl last w' := by
  obtain ⟨vb, h1, h2, h3, h4, h5⟩ := h
  have key : ∀ (b : Nat) (cur : Array Value) (t : TypeId) (fr : Nat × Nat), w.heap[b]? = some (.cells cur t fr) → t ≠ 114 → w'.heap[b]? = w.heap[b]? := fun b cur t fr hb ht => hg.block b (lt_of_block hb) (by
    intro e
    obtain ⟨_, cur', fr', hc⟩ := hr b e.symm
    exact ne_type hb hc ht rfl)
  refine ⟨vb, (key _ _ _ _ h1 (by decide)).trans h1, h2, ?_, h4.grown hg h4.size (fun k hk => (hr k hk).1), h5⟩
  cases last with
  | none => exact h3
  | some p => exact PtNew.keepBlock h3 fun b cur fr hb => key b cur _ fr hb (by decide)
theorem prev_facts {k : Nat} {l : List Ch} (rt : Rt k l) (j : Nat) (hj : j < l.length) : ∀ q, prevOf l j = some q → q.length = l[j].p.length ∧ (∀ x ∈ q, x < 2 ^ 64) ∧ Zb.cmp q l[j].p < 0 := by
  intro q hq
  unfold prevOf at hq
  split at hq
  · cases hq
  · rename_i h0
    rw [List.getElem?_eq_getElem (by omega)] at hq
    injection hq with hq
    subst hq
    have m1 := List.getElem_mem (show j - 1 < l.length by omega)
    refine ⟨by rw [rt.len _ m1, rt.len _ (List.getElem_mem hj)], rt.ok _ m1, (cmp_neg _ _).2 ?_⟩
    exact List.pairwise_iff_getElem.1 rt.asc (j - 1) j (by omega) hj (by omega)

/-- what ReadChanges hands back -/
def ReadP (w : World) (k : Nat) (l : List Ch) (e : Ending) (w' : World) : Prop :=
  ∃ v, e = .returned (.tuple #[.int .i64 (k : Nat), v, .int .i64 0]) ∧ RdC w' v l ∧ Below w.heap.size w w'

set_option maxRecDepth 100000 in
set_option maxHeartbeats 4000000 in
theorem rdChanges_any (w : World) (k : Nat) (l : List Ch) (vb : Value) (hv : RdB w vb (Pk.bytes k l)) (h1 : 1 ≤ k) (h16 : k ≤ 16) (rt : Rt k l) (hn : l.length ≤ 60) (ov : OkV l) :
    Calls Try.prog 47 #[vb] w fun e w' => ReadP w k l e w' := by
  have hmf : ∀ (fn : Fn) (first cap : Array Value) (w : World), (Instr.makeFunc fn first cap).run Try.prog w = .ok (.func fn first cap) w := fun _ _ _ _ => rfl
  have HV := Lib.hid hv
  have HD := Lib.hid (And.intro h1 (And.intro h16 (And.intro rt (And.intro hn ov))))
  have hvs : ∃ A m c, vb = .slice A m c := let ⟨A, c, e, _⟩ := hv; ⟨A, _, c, e⟩
  obtain ⟨A, m, c, rfl⟩ := hvs
  clear hv h1 h16 hn rt ov
  go_enter_defers Try.func47, Try.ntmps47
  go_wp2_with fail
  have a0 := heap_alloc_new w (.cells #[.int .i64 0] 3 (0, 0))
  have a1 := heap_alloc_new (w.alloc (.cells #[.int .i64 0] 3 (0, 0))) (.cells #[.slice none 0 0] 62 (0, 0))
  have a2 := heap_alloc_new ((w.alloc (.cells #[.int .i64 0] 3 (0, 0))).alloc (.cells #[.slice none 0 0] 62 (0, 0))) (.cells #[.int .i64 0] 25 (0, 0))
  have a3 := (Below.heap_alloc _ (.cells #[.slice none 0 0] 62 (0, 0)) _ (lt_of_block a0)).trans a0
  have a4 := (Below.heap_alloc _ (.cells #[.int .i64 0] 25 (0, 0)) _ (lt_of_block a3)).trans a3
  have a5 := (Below.heap_alloc _ (.cells #[.int .i64 0] 25 (0, 0)) _ (lt_of_block a1)).trans a1
  have hbw : Below w.heap.size w (((w.alloc (.cells #[.int .i64 0] 3 (0, 0))).alloc (.cells #[.slice none 0 0] 62 (0, 0))).alloc (.cells #[.int .i64 0] 25 (0, 0))) := (by repeat (first | exact Below.refl _ _ | assumption | (refine Below.drew ?_) | (refine below_drewN' ?_ _) | (refine below_alloc' ?_ _)))
  have hsz : (((w.alloc (.cells #[.int .i64 0] 3 (0, 0))).alloc (.cells #[.slice none 0 0] 62 (0, 0))).alloc (.cells #[.int .i64 0] 25 (0, 0))).heap.size = w.heap.size + 1 + 1 + 1 := by simp
  simp only [World.size_alloc] at a1 a2 a5
  clear a0 a3 a1
  obtain ⟨KB, hK⟩ : ∃ KB, w.heap.size = KB := ⟨_, rfl⟩
  obtain ⟨LB, hL⟩ : ∃ LB, KB + 1 = LB := ⟨_, rfl⟩
  obtain ⟨EB, hE⟩ : ∃ EB, LB + 1 = EB := ⟨_, rfl⟩
  simp only [hK, hL, hE] at a2 a4 a5 hsz ⊢
  generalize (((w.alloc (.cells #[.int .i64 0] 3 (0, 0))).alloc (.cells #[.slice none 0 0] 62 (0, 0))).alloc (.cells #[.int .i64 0] 25 (0, 0))) = w0 at *
  have HB0 := Lib.hid (show Below w.heap.size w w0 from hbw)
  have HLall := Lib.hid (show (Pk.all (Pk.zeros k) l).length ≤ 20000 by
    have h1 := Pk.all_length (Pk.zeros k) l k (fun c hc => Nat.le_of_eq (HD.out.2.2.1.len c hc))
    have h2 := HD.out.2.1
    have h3 := HD.out.2.2.2.1
    have h4 : l.length * (10 * k + 21) ≤ 60 * 181 := Nat.mul_le_mul h3 (by omega)
    omega)
  refine (open_any w w0 68 (by decide) k l.length (Pk.all (Pk.zeros k) l) _ HV.out HD.out.1 HD.out.2.1 (by have := HD.out.2.2.2.1; omega) (by have := HLall.out; omega) hbw).mono ?_
  rintro e w1 ⟨G, rfl, hI1, hG1, hkh1⟩
  have HN := Lib.hid (show KB ≠ G ∧ LB ≠ G ∧ EB ≠ G ∧ w.heap.size = KB ∧ KB ≠ LB ∧ KB ≠ EB ∧ LB ≠ EB ∧ w.heap.size ≤ LB ∧ w.heap.size ≤ EB by omega)
  have b4 := hkh1 _ _ a4
  have b5 := hkh1 _ _ a5
  have b2 := hkh1 _ _ a2
  clear a2 a4 a5 hbw hsz hG1 hkh1 hK hL hE
  have HI2 := Lib.hid (hI1.setC (C := KB) (j := 0) (x := .int .i64 (k : Nat)) b4 (by decide) (by decide) (Nat.le_of_eq HN.out.2.2.2.1))
  have HK2 := Lib.hid (show (w1.setCell ⟨KB, 0, none⟩ (.int .i64 (k : Nat))).heap[KB]? = some (.cells #[.int .i64 (k : Nat)] 3 (0, 0)) from cells_setCell b4)
  have HL2 := Lib.hid ((Below.heap_setCell w1 ⟨KB, 0, none⟩ (.int .i64 (k : Nat)) _ (fun e => HN.out.2.2.2.2.1 e.symm)).trans b5)
  have HE2 := Lib.hid ((Below.heap_setCell w1 ⟨KB, 0, none⟩ (.int .i64 (k : Nat)) _ (fun e => HN.out.2.2.2.2.2.1 e.symm)).trans b2)
  have kK : w1.cell? ⟨KB, 0, none⟩ = some (.int .i64 0) := by simp [World.cell?, b4]
  have kKf : w1.frozen? ⟨KB, 0, none⟩ = false := by simp [World.frozen?, b4]
  have hlK := lt_of_block b4
  clear b4 b5 b2 hI1
  go_wp2_with fail
  generalize w1.setCell ⟨KB, 0, none⟩ (.int .i64 (k : Nat)) = w2 at *
  clear kK kKf hlK
  go_loopw [15] (fun i wr => ∃ (j : Nat) (vo vl : Value), j ≤ l.length ∧ i = .int .u64 j ∧ wr.heap[KB]? = some (.cells #[.int .i64 (k : Nat)] 3 (0, 0)) ∧ wr.heap[LB]? = some (.cells #[vo] 62 (0, 0)) ∧ wr.heap[EB]? = some (.cells #[.int .i64 0] 25 (0, 0)) ∧
    InvR w G (Pk.all ((prevOf l j).getD (Pk.zeros k)) (l.drop j)) vl (prevOf l j) wr ∧ OwnC (PtNew wr) w wr vo (l.take j)) (fun i _ => l.length - (intOf i).toNat)
  case atStart => exact ⟨0, _, _, Nat.zero_le _, rfl, HK2.out, HL2.out, HE2.out, HI2.out, OwnC.nil _ _ _⟩
  case round =>
    obtain ⟨j, vo, vl, hj, rfl, hKc, hLc, hEc, hI, hown⟩ := hrel
    have HKc := Lib.hid hKc
    have HL := Lib.hid hLc
    have HE := Lib.hid hEc
    have HOwn := Lib.hid hown
    have kK : wr.cell? ⟨KB, 0, none⟩ = some (.int .i64 (k : Nat)) := by simp [World.cell?, hKc]
    have kL : wr.cell? ⟨LB, 0, none⟩ = some vo := by simp [World.cell?, hLc]
    have kKf : wr.frozen? ⟨KB, 0, none⟩ = false := by simp [World.frozen?, hKc]
    have kLf : wr.frozen? ⟨LB, 0, none⟩ = false := by simp [World.frozen?, hLc]
    have kE : wr.cell? ⟨EB, 0, none⟩ = some (.int .i64 0) := by simp [World.cell?, hEc]
    have kEf : wr.frozen? ⟨EB, 0, none⟩ = false := by simp [World.frozen?, hEc]
    have hlK := lt_of_block hKc
    have hlL := lt_of_block hLc
    have hlE := lt_of_block hEc
    clear hKc hLc hEc hown
    by_cases hlt : j < l.length
    · have h3 : (j : Int) < l.length := by omega
      rw [List.drop_eq_getElem_cons hlt, show Pk.all ((prevOf l j).getD (Pk.zeros k)) (l[j] :: l.drop (j + 1)) = Pk.one ((prevOf l j).getD (Pk.zeros k)) l[j] ++ Pk.all l[j].p (l.drop (j + 1)) from rfl] at hI
      have HI := Lib.hid hI
      have hmem := List.getElem_mem hlt
      have hlen := HD.out.2.2.1.len _ hmem
      have HCh := Lib.hid (show ∀ wz, InvR w G (Pk.one ((prevOf l j).getD (Pk.zeros k)) l[j] ++ Pk.all l[j].p (l.drop (j + 1))) vl (prevOf l j) wz → Calls Try.prog 100 #[.pointer (some ⟨G, 0, none⟩), .int .i64 (k : Nat)] wz fun e w' => ChgP w wz G l[j] (Pk.all l[j].p (l.drop (j + 1))) e w' from fun wz hz => by
        have := rChange_any w wz G l[j] (Pk.all l[j].p (l.drop (j + 1))) vl (prevOf l j) (by rw [hlen]; exact hz) ⟨by rw [hlen]; exact HD.out.1, by rw [hlen]; exact HD.out.2.1, HD.out.2.2.1.ok _ hmem, prev_facts HD.out.2.2.1 j hlt, (HD.out.2.2.2.2 _ hmem).1, (HD.out.2.2.2.2 _ hmem).2, by
          have h1 := Pk.all_length l[j].p (l.drop (j + 1)) k (fun c hc => Nat.le_of_eq (HD.out.2.2.1.len c (List.mem_of_mem_drop hc)))
          have h2 := HD.out.2.1
          have h3 := HD.out.2.2.2.1
          have h4 : (l.drop (j + 1)).length * (10 * k + 21) ≤ 60 * 181 := Nat.mul_le_mul (by rw [List.length_drop]; omega) (by omega)
          omega⟩ (HD.out.2.2.1.right _ hmem)
        rw [hlen] at this
        exact this)
      have HW := Lib.hid (show IntKind.u64.wrap ((j : Int) + 1) = ((j + 1 : Nat) : Int) by have := HD.out.2.2.2.1; unfold IntKind.wrap; simp [IntKind.bits, IntKind.signed]; omega)
      clear hI hmem hlen
      go_wp2_with fail
      refine wp_region_steps 3 (fun wz => InvR w G (Pk.one ((prevOf l j).getD (Pk.zeros k)) l[j] ++ Pk.all l[j].p (l.drop (j + 1))) vl (prevOf l j) wz) (fun wz => KeepR G wr wz) (fun q wa wb => match q with | 3 => KeepR G wa wb | 4 => Below wa.heap.size wa wb | _ => wb = wa) 5 [fun v _ => v = vo,
        fun v _ => v = .pointer (some ⟨G, 0, none⟩),
        fun v _ => v = .int .i64 (k : Nat),
        fun v9 w9 => ∃ u, v9 = AgC u l[j] ∧ PtNew w9 u l[j].p ∧ InvR w G (Pk.all l[j].p (l.drop (j + 1))) u (some l[j].p) w9,
        fun v9 w9 => ∃ u g, v9 = .slice (some ⟨g, 0, none⟩) 1 1 ∧ w9.heap[g]? = some (.cells #[u, .bool l[j].had, .bool l[j].has, .int .u64 (l[j].old : Nat), .int .u64 (l[j].new : Nat)] 114 (0, 0)) ∧ PtNew w9 u l[j].p ∧ InvR w G (Pk.all l[j].p (l.drop (j + 1))) u (some l[j].p) w9]
        (by kernel_rfl) (by kernel_rfl) (by kernel_rfl) (by kernel_rfl) ((HI.out.below (drewN_below wr 1))) (KeepR.below (drewN_below wr 1)) ?_ ?_ ?_ ?_ ?_
      · intro jq wa wb hj hne h hb
        match jq, hj, hne with
        | 0, _, hne =>
        obtain rfl : wb = wa := hb
        exact h
        | 1, _, hne =>
        obtain rfl : wb = wa := hb
        exact h
        | 2, _, hne =>
        obtain rfl : wb = wa := hb
        exact h
        | 3, _, hne => exact absurd rfl hne
        | 4, _, hne =>
        have hb : Below wa.heap.size wa wb := hb
        exact h.below hb
      · intro jq wa wb hj h hb
        match jq, hj with
        | 0, _ =>
        obtain rfl : wb = wa := hb
        exact h
        | 1, _ =>
        obtain rfl : wb = wa := hb
        exact h
        | 2, _ =>
        obtain rfl : wb = wa := hb
        exact h
        | 3, _ =>
        have hb : KeepR G wa wb := hb
        exact h.trans hb
        | 4, _ =>
        have hb : Below wa.heap.size wa wb := hb
        exact h.trans (KeepR.below hb)
      · intro iq jq v wa wb hi hj hne han h hb
        match iq, jq, hi, hj, hne, han with
        | 0, 0, _, _, hne, han => exact absurd rfl hne
        | 0, 1, _, _, hne, han => 
        obtain rfl : wb = wa := hb
        exact h
        | 0, 2, _, _, hne, han => 
        obtain rfl : wb = wa := hb
        exact h
        | 0, 3, _, _, hne, han => exact h
        | 0, 4, _, _, hne, han => exact h
        | 1, 0, _, _, hne, han => 
        obtain rfl : wb = wa := hb
        exact h
        | 1, 1, _, _, hne, han => exact absurd rfl hne
        | 1, 2, _, _, hne, han => 
        obtain rfl : wb = wa := hb
        exact h
        | 1, 3, _, _, hne, han => exact h
        | 1, 4, _, _, hne, han => exact h
        | 2, 0, _, _, hne, han => 
        obtain rfl : wb = wa := hb
        exact h
        | 2, 1, _, _, hne, han => 
        obtain rfl : wb = wa := hb
        exact h
        | 2, 2, _, _, hne, han => exact absurd rfl hne
        | 2, 3, _, _, hne, han => exact h
        | 2, 4, _, _, hne, han => exact h
        | 3, 0, _, _, hne, han => 
        obtain rfl : wb = wa := hb
        exact h
        | 3, 1, _, _, hne, han => 
        obtain rfl : wb = wa := hb
        exact h
        | 3, 2, _, _, hne, han => 
        obtain rfl : wb = wa := hb
        exact h
        | 3, 3, _, _, hne, han => exact absurd rfl hne
        | 3, 4, _, _, hne, han => 
        (first | exact absurd (han.symm.trans (by decide +kernel) : false = true) (by decide) | ((have hb : Below wa.heap.size wa wb := hb); (have h : ∃ u, v = AgC u l[j] ∧ PtNew wa u l[j].p ∧ InvR w G (Pk.all l[j].p (l.drop (j + 1))) u (some l[j].p) wa := h); exact (let ⟨u, h1, h2, h3⟩ := h; ⟨u, h1, h2.below hb, h3.below hb⟩)))
        | 4, 0, _, _, hne, han => 
        obtain rfl : wb = wa := hb
        exact h
        | 4, 1, _, _, hne, han => 
        obtain rfl : wb = wa := hb
        exact h
        | 4, 2, _, _, hne, han => 
        obtain rfl : wb = wa := hb
        exact h
        | 4, 3, _, _, hne, han => 
        (first | exact absurd (han.symm.trans (by decide +kernel) : false = true) (by decide) | ((have hb : KeepR G wa wb := hb); (have h : ∃ u g, v = .slice (some ⟨g, 0, none⟩) 1 1 ∧ wa.heap[g]? = some (.cells #[u, .bool l[j].had, .bool l[j].has, .int .u64 (l[j].old : Nat), .int .u64 (l[j].new : Nat)] 114 (0, 0)) ∧ PtNew wa u l[j].p ∧ InvR w G (Pk.all l[j].p (l.drop (j + 1))) u (some l[j].p) wa := h); fail))
        | 4, 4, _, _, hne, han => exact absurd rfl hne
      · intro iq o hi ho
        match iq, hi with
        | 0, _ =>
        obtain rfl := Option.some.inj ho
        intro a1 w1 K hk hK
        have e3 : a1.tmps.getD 3 undef = .pointer (some ⟨LB, 0, none⟩) := hk.same 3 (by simp)
        have c0 : w1.cell? ⟨LB, 0, none⟩ = some (vo) := by have h := hk.p1.1 _ _ HL.out HN.out.2.1; simp [World.cell?, h]
        have c1 : w1.cell? ⟨KB, 0, none⟩ = some (.int .i64 (k : Nat)) := by have h := hk.p1.1 _ _ HKc.out HN.out.1; simp [World.cell?, h]
        simp [Region.wanted, Oper.wp, Act.eval, go_sem, e3, c0, c1]
        exact hK _ _ rfl rfl
        | 1, _ =>
        obtain rfl := Option.some.inj ho
        intro a1 w1 K hk hK
        have e5 : a1.tmps.getD 5 undef = .pointer (some ⟨G, 0, none⟩) := hk.same 5 (by simp)
        simp [Region.wanted, Oper.wp, Act.eval, go_sem, e5]
        exact hK _ _ rfl rfl
        | 2, _ =>
        obtain rfl := Option.some.inj ho
        intro a1 w1 K hk hK
        have e2 : a1.tmps.getD 2 undef = .pointer (some ⟨KB, 0, none⟩) := hk.same 2 (by simp)
        have c0 : w1.cell? ⟨LB, 0, none⟩ = some (vo) := by have h := hk.p1.1 _ _ HL.out HN.out.2.1; simp [World.cell?, h]
        have c1 : w1.cell? ⟨KB, 0, none⟩ = some (.int .i64 (k : Nat)) := by have h := hk.p1.1 _ _ HKc.out HN.out.1; simp [World.cell?, h]
        simp [Region.wanted, Oper.wp, Act.eval, go_sem, e2, c0, c1]
        exact hK _ _ rfl rfl
        | 3, _ =>
        obtain rfl := Option.some.inj ho
        intro a1 w1 K hk hK
        have d18 : a1.tmps.getD 18 undef = .pointer (some ⟨G, 0, none⟩) := hk.deps ⟨1, .data⟩ (by simp) rfl _ _ rfl rfl
        have d19 : a1.tmps.getD 19 undef = .int .i64 (k : Nat) := hk.deps ⟨2, .data⟩ (by simp) rfl _ _ rfl rfl
        simp [Region.wanted, Oper.wp, Act.eval, go_sem, d18, d19]
        refine (HCh.out w1 (hk.p0 (by decide))).mono ?_
        rintro e w2 ⟨u, rfl, hp9, hi9, hk9⟩
        exact hK _ _ hk9 ⟨u, rfl, hp9, hi9⟩
        | 4, _ =>
        obtain rfl := Option.some.inj ho
        intro a1 w1 K hk hK
        have D20 : ∃ u, (a1.tmps.getD 20 undef) = AgC u l[j] ∧ PtNew w1 u l[j].p ∧ InvR w G (Pk.all l[j].p (l.drop (j + 1))) u (some l[j].p) w1 := hk.deps ⟨3, .data⟩ (by simp) rfl _ _ rfl rfl
        obtain ⟨u, D20e, hp9, hi9⟩ := D20
        unfold AgC at D20e
        have D20x : a1.tmps[20]?.getD undef = _ := (show a1.tmps[20]?.getD undef = a1.tmps.getD 20 undef by simp).trans D20e
        simp [Region.wanted, Oper.wp, Act.eval, go_sem, D20e, D20x]
        exact hK _ _ (below_alloc' (Below.refl _ _) _) ⟨u, w1.heap.size, rfl, heap_alloc_new _ _, hp9.below (below_alloc' (Below.refl _ _) _), hi9.below (below_alloc' (Below.refl _ _) _)⟩
      · intro vs w3 hl hp3 hv
        match vs, hl with
        | [v0, v1, v2, v3, v4], _ =>
        obtain rfl : vo = v0 := (show v0 = vo from hv 0 (by omega)).symm
        obtain rfl : v1 = .pointer (some ⟨G, 0, none⟩) := hv 1 (by omega)
        obtain rfl : v2 = .int .i64 (k : Nat) := hv 2 (by omega)
        have q3 : ∃ u, v3 = AgC u l[j] ∧ PtNew w3 u l[j].p ∧ InvR w G (Pk.all l[j].p (l.drop (j + 1))) u (some l[j].p) w3 := hv 3 (by omega)
        have q4 : ∃ u g, v4 = .slice (some ⟨g, 0, none⟩) 1 1 ∧ w3.heap[g]? = some (.cells #[u, .bool l[j].had, .bool l[j].has, .int .u64 (l[j].old : Nat), .int .u64 (l[j].new : Nat)] 114 (0, 0)) ∧ PtNew w3 u l[j].p ∧ InvR w G (Pk.all l[j].p (l.drop (j + 1))) u (some l[j].p) w3 := hv 4 (by omega)
        clear hv
        simp only [putAll, List.take_succ_cons, List.take_zero, List.drop_succ_cons, List.drop_zero, Act.put, List.setIfInBounds_toArray, List.set_cons_succ, List.set_cons_zero]
        obtain ⟨u3, rfl, _, _⟩ := q3
        obtain ⟨u, g, rfl, hg4, hp4, hi4⟩ := q4
        have hGb := HI.out.block2
        have HK3 := Lib.hid (hp3.1 _ _ HKc.out HN.out.1)
        have HL3 := Lib.hid (hp3.1 _ _ HL.out HN.out.2.1)
        have HE3 := Lib.hid (hp3.1 _ _ HE.out HN.out.2.2.1)
        have HO3 := Lib.hid ((HOwn.out.mono fun u p h => PtNew.keepR h hGb (by decide) hp3 : OwnC (PtNew w3) w wr vo (l.take j)).keepBlock fun b cur fr hb => hp3.1 b _ hb (ne_type hb hGb (by decide)))
        obtain ⟨c0, c1, c2, c3, c4⟩ := cells_of_five hg4
        obtain ⟨v9, w9, hrun, hown9, hgr⟩ := run_append_C (Pt := PtNew w3) w w3 (fun u p h => h.rd) vo (.slice (some ⟨g, 0, none⟩) 1 1) (l.take j) l[j] HO3.out ⟨g, 1, u, rfl, c0, hp4, c1, c2, c3, c4⟩ hi4.bel.size (by have := HD.out.2.2.2.1; rw [List.length_take]; omega) 62
        have hrow : ∀ k, vo.ownBlock = some k → w.heap.size ≤ k ∧ ∃ cur fr, w3.heap[k]? = some (.cells cur 114 fr) := fun k hk => let ⟨h1, cur, h2⟩ := HO3.out.block k hk; ⟨h1, cur, _, h2⟩
        have key : ∀ (b : Nat) (cur : Array Value) (t : TypeId) (fr : Nat × Nat), w3.heap[b]? = some (.cells cur t fr) → t ≠ 114 → w9.heap[b]? = some (.cells cur t fr) := fun b cur t fr hb ht => (hgr.block b (lt_of_block hb) (by
          intro e
          obtain ⟨_, cur', fr', hc⟩ := hrow b e.symm
          exact ne_type hb hc ht rfl)).trans hb
        have hL9 := key _ _ _ _ HL3.out (by decide)
        have HL9 := Lib.hid hL9
        have HK9 := Lib.hid (key _ _ _ _ HK3.out (by decide))
        have HE9 := Lib.hid (key _ _ _ _ HE3.out (by decide))
        have HI9 := Lib.hid (hi4.grown hgr hrow)
        have HO9 := Lib.hid (show OwnC (PtNew w9) w w9 v9 (l.take j ++ [l[j]]) from hown9.mono fun u p h => h.keepBlock fun b cur fr hb => (key b cur _ fr hb (by decide)).trans hb.symm)
        obtain ⟨A9, n9, c9, rfl⟩ := hown9.shape
        have kL9 : w9.cell? ⟨LB, 0, none⟩ = some vo := by simp [World.cell?, hL9]
        have kLf9 : w9.frozen? ⟨LB, 0, none⟩ = false := by simp [World.frozen?, hL9]
        have hlL9 := lt_of_block hL9
        clear hgr hown9 hrow key hp3 hg4 hp4 hi4 hGb c0 c1 c2 c3 c4 kK kL kKf kLf kE kEf hlK hlL hlE hL9
        go_wp2_with ((at_builtin; refine wpList_append_run rfl (.tmp 17) (.tmp 21) rfl hrun ?_))
        clear hrun
        go_wp2_with fail
        go_roundw
        case rel => exact ⟨j + 1, .slice A9 n9 c9, u, by omega, by rw [HW.out], (Below.heap_setCell _ _ _ _ HN.out.2.2.2.2.1).trans HK9.out, cells_setCell HL9.out, (Below.heap_setCell _ _ _ _ (fun e => HN.out.2.2.2.2.2.2.1 e.symm)).trans HE9.out, by rw [prevOf_succ l j hlt]; exact HI9.out.setC HL9.out (by decide) (by decide) HN.out.2.2.2.2.2.2.2.1, by
          rw [List.take_succ_eq_append_getElem hlt]
          exact (HO9.out.mono fun u p h => h.setC HL9.out (by decide)).keepBlock fun b cur fr hb => (Below.heap_setCell _ _ _ _ (ne_type hb HL9.out (by decide))).trans hb⟩
        case measure => first | (rw [intOf_u HW.out, intOf_u rfl]; omega) | (rw [intOf_u rfl, intOf_u rfl]; omega)
    · obtain rfl : j = l.length := by omega
      have h3 : ¬ (l.length : Int) < l.length := by omega
      rw [List.drop_of_length_le (Nat.le_refl _), show Pk.all ((prevOf l l.length).getD (Pk.zeros k)) [] = [] from rfl] at hI
      have HI := Lib.hid hI
      have HOw := Lib.hid (show OwnC (PtNew wr) w wr vo l by have := HOwn.out; rwa [List.take_length] at this)
      have hI4B := Lib.hid hI.bel
      obtain ⟨vb, hGb, hrd, _⟩ := hI
      obtain ⟨kG, _, kGf⟩ := cells_of_two hGb
      have hlG := lt_of_block hGb
      obtain ⟨Ab, cb, rfl, _⟩ := hrd
      obtain ⟨A9, c9, rfl, hcap9⟩ := HOw.out.shape2
      clear hGb HOwn h3
      have h3 : ¬ (l.length : Int) < l.length := by omega
      go_wp2_with fail
      refine (must_true 9 _).mono ?_
      rintro e w5 ⟨rfl, hw⟩
      obtain rfl := hw.symm
      go_wp2_with fail
      refine wp_region_vals 3 [fun v _ => v = .int .i64 (k : Nat),
        fun v _ => v = .slice A9 l.length c9,
        fun v9 w9 => .slice A9 l.length l.length = v9]
        (by kernel_rfl) (by kernel_rfl) (by kernel_rfl) (by kernel_rfl) ?_ ?_ ?_
      · intro V hV v w1 w2 h hb
        simp only [List.mem_cons, List.not_mem_nil, or_false] at hV
        rcases hV with rfl | rfl | rfl
        all_goals first | exact h | (exact h)
      · intro i o hi ho
        match i, hi with
        | 0, _ =>
        obtain rfl := Option.some.inj ho
        intro a1 w1 K hk hK
        have e2 : a1.tmps.getD 2 undef = .pointer (some ⟨KB, 0, none⟩) := hk.same 2 (by simp)
        have c0 : w1.cell? ⟨KB, 0, none⟩ = some (.int .i64 (k : Nat)) := Below.keeps hk.ext _ _ (by simp [go_sem, kK, kL])
        have c1 : w1.cell? ⟨LB, 0, none⟩ = some (.slice A9 l.length c9) := Below.keeps hk.ext _ _ (by simp [go_sem, kK, kL])
        simp [Region.wanted, Oper.wp, Act.eval, go_sem, e2, c0, c1, kK, kL]
        exact hK _ _ (Below.refl _ _) rfl
        | 1, _ =>
        obtain rfl := Option.some.inj ho
        intro a1 w1 K hk hK
        have e3 : a1.tmps.getD 3 undef = .pointer (some ⟨LB, 0, none⟩) := hk.same 3 (by simp)
        have c0 : w1.cell? ⟨KB, 0, none⟩ = some (.int .i64 (k : Nat)) := Below.keeps hk.ext _ _ (by simp [go_sem, kK, kL])
        have c1 : w1.cell? ⟨LB, 0, none⟩ = some (.slice A9 l.length c9) := Below.keeps hk.ext _ _ (by simp [go_sem, kK, kL])
        simp [Region.wanted, Oper.wp, Act.eval, go_sem, e3, c0, c1, kK, kL]
        exact hK _ _ (Below.refl _ _) rfl
        | 2, _ =>
        obtain rfl := Option.some.inj ho
        intro a1 w1 K hk hK
        have d32 : a1.tmps.getD 32 undef = .slice A9 l.length c9 := hk.deps ⟨1, .data⟩ (by simp) rfl _ _ rfl rfl
        simp [Region.wanted, Oper.wp, Act.eval, go_sem, d32, kK, kL]
        refine (clip_any A9 l.length c9 _ hcap9).mono ?_
        rintro e w2 ⟨rfl, hw⟩
        obtain rfl := hw.symm
        exact hK _ _ (Below.refl _ _) rfl
      · intro vs w3 hl hb3 hv
        match vs, hl with
        | [v0, v1, v2], _ =>
        obtain rfl : v0 = .int .i64 (k : Nat) := hv 0 (by omega)
        obtain rfl : v1 = .slice A9 l.length c9 := hv 1 (by omega)
        have q2 : .slice A9 l.length l.length = v2 := hv 2 (by omega)
        clear hv
        simp only [putAll, List.take_succ_cons, List.take_zero, List.drop_succ_cons, List.drop_zero, Act.put, List.setIfInBounds_toArray, List.set_cons_succ, List.set_cons_zero]
        subst q2
        have hbX : Below wr.heap.size wr w3 := by first | exact hb3 | exact below_trans (drewN_below wr 1) hb3
        have HO3 := Lib.hid ((HOw.out.mono fun u p h => h.below hbX : OwnC (PtNew w3) w wr (.slice A9 l.length c9) l).below hbX)
        have bK := (hbX.block _ hlK).trans HKc.out
        have bL := (hbX.block _ hlL).trans HL.out
        have bE := (hbX.block _ hlE).trans HE.out
        have HBf := Lib.hid (hI4B.out.trans (hbX.mono hI4B.out.size))
        have HB3 := Lib.hid (And.intro bK (And.intro bL bE))
        have tK : w3.cell? ⟨KB, 0, none⟩ = some (.int .i64 (k : Nat)) := by simp [World.cell?, bK]
        have tL : w3.cell? ⟨LB, 0, none⟩ = some (.slice A9 l.length c9) := by simp [World.cell?, bL]
        have tE : w3.cell? ⟨EB, 0, none⟩ = some (.int .i64 0) := by simp [World.cell?, bE]
        have tKf : w3.frozen? ⟨KB, 0, none⟩ = false := by simp [World.frozen?, bK]
        have tLf : w3.frozen? ⟨LB, 0, none⟩ = false := by simp [World.frozen?, bL]
        have tEf : w3.frozen? ⟨EB, 0, none⟩ = false := by simp [World.frozen?, bE]
        have hlK3 := lt_of_block bK
        have hlL3 := lt_of_block bL
        have hlE3 := lt_of_block bE
        have n1 : ¬ KB = LB := HN.out.2.2.2.2.1
        have n2 : ¬ KB = EB := HN.out.2.2.2.2.2.1
        have n3 : ¬ LB = EB := HN.out.2.2.2.2.2.2.1
        have n4 : ¬ LB = KB := fun e => n1 e.symm
        have n5 : ¬ EB = KB := fun e => n2 e.symm
        have n6 : ¬ EB = LB := fun e => n3 e.symm
        clear hb3 hbX bK bL bE kK kL kKf kLf kE kEf hlK hlL hlE kG kGf hlG
        go_wp2_with fail
        have e1 := cells_setCell (k := 0) (u := .int .i64 (k : Nat)) HB3.out.1
        have e2 := (Below.heap_setCell _ ⟨LB, 0, none⟩ (.slice A9 l.length l.length) _ n1).trans e1
        have e3 := (Below.heap_setCell _ ⟨EB, 0, none⟩ (.int .i64 0) _ n2).trans e2
        have f1 := (Below.heap_setCell w3 ⟨KB, 0, none⟩ (.int .i64 (k : Nat)) _ n4).trans HB3.out.2.1
        have f2 := cells_setCell (k := 0) (u := .slice A9 l.length l.length) f1
        have f3 := (Below.heap_setCell _ ⟨EB, 0, none⟩ (.int .i64 0) _ n3).trans f2
        have g1 := (Below.heap_setCell w3 ⟨KB, 0, none⟩ (.int .i64 (k : Nat)) _ n5).trans HB3.out.2.2
        have g2 := (Below.heap_setCell _ ⟨LB, 0, none⟩ (.slice A9 l.length l.length) _ n6).trans g1
        have g3 := cells_setCell (k := 0) (u := .int .i64 0) g2
        have hbf : Below w.heap.size w (((w3.setCell ⟨KB, 0, none⟩ (.int .i64 (k : Nat))).setCell ⟨LB, 0, none⟩ (.slice A9 l.length l.length)).setCell ⟨EB, 0, none⟩ (.int .i64 0)) :=
          ((HBf.out.setCell (Nat.le_of_eq HN.out.2.2.2.1) _).setCell HN.out.2.2.2.2.2.2.2.1 _).setCell HN.out.2.2.2.2.2.2.2.2 _
        have ho1 := (HO3.out.mono fun u p h => h.setC (j := 0) (x := .int .i64 (k : Nat)) HB3.out.1 (by decide) : OwnC _ w w3 _ l).keepBlock fun b cur fr hb => (Below.heap_setCell w3 ⟨KB, 0, none⟩ (.int .i64 (k : Nat)) _ (ne_type hb HB3.out.1 (by decide))).trans hb
        have ho2 := (ho1.mono fun u p h => h.setC (j := 0) (x := .slice A9 l.length l.length) f1 (by decide)).keepBlock fun b cur fr hb => (Below.heap_setCell _ ⟨LB, 0, none⟩ (.slice A9 l.length l.length) _ (ne_type hb f1 (by decide))).trans hb
        have ho3 := (ho2.mono fun u p h => h.setC (j := 0) (x := .int .i64 0) g2 (by decide)).keepBlock fun b cur fr hb => (Below.heap_setCell _ ⟨EB, 0, none⟩ (.int .i64 0) _ (ne_type hb g2 (by decide))).trans hb
        have hrd := (ho3.rd fun u p h => h.rd).1
        generalize (((w3.setCell ⟨KB, 0, none⟩ (.int .i64 (k : Nat))).setCell ⟨LB, 0, none⟩ (.slice A9 l.length l.length)).setCell ⟨EB, 0, none⟩ (.int .i64 0)) = wf at *
        have he : wf.cell? ⟨EB, 0, none⟩ = some (.int .i64 0) := by simp [World.cell?, g3]
        refine leaves_cons (f := 97) (args := #[.pointer (some ⟨EB, 0, none⟩), .pointer (some ⟨KB, 0, none⟩), .pointer (some ⟨LB, 0, none⟩)]) (by simp) (by simp [go_sem]) ?_
        refine (deferred_idle EB KB LB wf he).mono ?_
        rintro e u' w'' ⟨rfl, rfl, hbl⟩
        have t1 := Below.keeps hbl ⟨KB, 0, none⟩ (.int .i64 (k : Nat)) (by simp [World.cell?, e3])
        have t2 := Below.keeps hbl ⟨LB, 0, none⟩ (.slice A9 l.length l.length) (by simp [World.cell?, f3])
        have t3 := Below.keeps hbl _ _ he
        have s1 : KB < w''.heap.size := Nat.lt_of_lt_of_le (lt_of_block e3) hbl.size
        have s2 : LB < w''.heap.size := Nat.lt_of_lt_of_le (lt_of_block f3) hbl.size
        have s3 : EB < w''.heap.size := Nat.lt_of_lt_of_le (lt_of_block g3) hbl.size
        refine ⟨.tuple #[.int .i64 (k : Nat), .slice A9 l.length l.length, .int .i64 0], by simp [results, Try.results47, go_sem, t1, t2, t3, s1, s2, s3], _, rfl, ?_, hbf.trans (hbl.mono hbf.size)⟩
        obtain ⟨A', c', e', h'⟩ := hrd.below hbl
        injection e' with e'
        subst e'
        exact ⟨_, _, rfl, h'⟩
end Go.Proofs.Ytlmgabhdeeehmaa
