/-
  A region that draws its order, among whose operations there is one (an append onto a row of the call's own) that writes; what may come behind it leaves the world alone. No program.
-/
import Derived.Test.YtlmgabhdeeehmaaRegion
namespace Go
open Go.RowKit
set_option linter.unusedVariables false

/-- what an operation does to the world -/
def Step2 (sp : Nat) (late : Nat → Bool) (Sp : World → World → Prop) (i : Nat) (w w' : World) : Prop := if i = sp then Sp w w' else match late i with | true => w' = w | false => Below w.heap.size w w'
theorem step_early {sp : Nat} {late : Nat → Bool} {Sp : World → World → Prop} {i : Nat} {w w' : World} (h : i ≠ sp) (hl : late i = false) (hb : Below w.heap.size w w') : Step2 sp late Sp i w w' := by
  unfold Step2; rw [if_neg h, hl]; exact hb
theorem step_late {sp : Nat} {late : Nat → Bool} {Sp : World → World → Prop} {i : Nat} {w : World} (h : i ≠ sp) (hl : late i = true) : Step2 sp late Sp i w w := by
  unfold Step2; rw [if_neg h, hl]
theorem step_sp {sp : Nat} {late : Nat → Bool} {Sp : World → World → Prop} {w w' : World} (h : Sp w w') : Step2 sp late Sp sp w w' := by
  unfold Step2; rw [if_pos rfl]; exact h
/-- must operation i be done ahead of operation j? -/
def ancB (ops : Array Oper) : Nat → Nat → Nat → Bool
  | 0, _, _ => false
  | f + 1, i, j => match ops[j]? with | some o => o.after.any (fun e => Region.binds .any e && (e.on == i || ancB ops f i e.on)) | none => false
theorem anc_listed {ops : Array Oper} {n : Nat} {listed : Array Bool} (h : HeadInv .any ops n listed) : ∀ (f i j : Nat), ancB ops f i j = true → listed.getD j false = true → listed.getD i false = true
  | 0, _, _, h1, _ => by cases h1
  | f + 1, i, j, h1, h2 => by
    unfold ancB at h1
    cases ho : ops[j]? with
    | none => rw [ho] at h1; cases h1
    | some o =>
      rw [ho] at h1
      have h1 : o.after.any (fun e => Region.binds .any e && (e.on == i || ancB ops f i e.on)) = true := h1
      rw [Array.any_eq_true] at h1
      obtain ⟨q, hq, h4⟩ := h1
      simp only [Bool.and_eq_true, Bool.or_eq_true, beq_iff_eq] at h4
      obtain ⟨hb, h3⟩ := h4
      generalize hge : o.after[q] = e at *
      have he : e ∈ o.after := hge ▸ Array.getElem_mem hq
      have hl := h.closed j o ho h2 e he hb
      rcases h3 with h3 | h3
      · rw [← h3]; exact hl
      · exact anc_listed h f i e.on h3 hl

section
variable {P : Program} {ops : Array Oper} {V : Nat → Value → World → Prop} {a0 : Act} {W : World} {Q : Exit → Act → World → Prop} {sp : Nat} {late : Nat → Bool} {Sp : World → World → Prop}

/-- What is known when an operation comes up. -/
structure Known2 (ops : Array Oper) (V : Nat → Value → World → Prop) (a0 : Act) (W : World) (sp : Nat) (late : Nat → Bool) (n i : Nat) (o : Oper) (a : Act) (w : World) : Prop where
  ext : late i = false → Below W.heap.size W w
  same : ∀ t, (∀ oi ∈ ops.toList.take n, oi.dst ≠ some t) → a.tmps.getD t undef = a0.tmps.getD t undef
  deps : ∀ e ∈ o.after, Region.binds .any e = true → ∀ oe d, ops[e.on]? = some oe → oe.dst = some d → V e.on (a.tmps.getD d undef) w

/-- Operation i, whenever it comes up, yields a value of V i, which lasts. -/
def OpOk2 (P : Program) (ops : Array Oper) (V : Nat → Value → World → Prop) (a0 : Act) (W : World) (Q : Exit → Act → World → Prop) (sp : Nat) (late : Nat → Bool) (Sp : World → World → Prop) (n : Nat) (i : Nat) (o : Oper) : Prop :=
  ∀ (a : Act) (w : World) (K : Act → World → Prop), Known2 ops V a0 W sp late n i o a w → (∀ v w', Step2 sp late Sp i w w' → V i v w' → K (a.put o.dst v) w') →
    if Region.wanted o (yielded ops a.tmps) then o.wp P a w K Q else K (a.put o.dst undef) w

/-- The state: some heads are done. -/
structure Midst2 (ops : Array Oper) (V : Nat → Value → World → Prop) (sp : Nat) (n : Nat) (a0 : Act) (W : World) (listed : Array Bool) (a : Act) (w : World) : Prop where
  inv : HeadInv .any ops n listed
  ext : listed.getD sp false = false → Below W.heap.size W w
  size : a.tmps.size = a0.tmps.size
  defers : a.defers = a0.defers
  done : ∀ i o d, ops[i]? = some o → o.dst = some d → listed.getD i false = true → V i (a.tmps.getD d undef) w
  rest : ∀ t, (∀ i o, ops[i]? = some o → listed.getD i false = true → o.dst ≠ some t) → a.tmps.getD t undef = a0.tmps.getD t undef

theorem midst_step2 {n : Nat} (hV : ∀ i v w w', i ≠ sp → V i v w → Below w.heap.size w w' → V i v w') (hS2 : ∀ i v w w', i ≠ sp → V i v w → Sp w w' → V i v w') (hanc : ∀ i, i < n → i ≠ sp → late i = false → ancB ops 30 i sp = true) (hlate : late sp = false) {listed : Array Bool} {a : Act} {w : World} (hD : dstsB ops n a0.tmps.size = true)
    (h : Midst2 ops V sp n a0 W listed a w) {i : Nat} {o : Oper} (hi : i ∈ Region.ready .any ops listed) (hin : i < n) (ho : ops[i]? = some o) {v : Value} {w' : World}
    (hb : Step2 sp late Sp i w w') (hv : V i v w') : Midst2 ops V sp n a0 W (listed.setIfInBounds i true) (a.put o.dst v) w' := by
  simp only [dstsB, Bool.and_eq_true, List.all_eq_true, decide_eq_true_iff] at hD
  have hlt : i < ops.size := (Array.getElem?_eq_some_iff.1 ho).1
  have hmem : o ∈ ops.toList.take n := by
    have : (ops.toList.take n)[i]? = some o := by rw [List.getElem?_take, if_pos hin]; simpa using ho
    exact List.mem_of_getElem? this
  have hd1 := hD.1 o hmem
  cases hod : o.dst with
  | none => rw [hod] at hd1; cases hd1
  | some d =>
    rw [hod] at hd1
    have hds : d < a.tmps.size := by rw [h.size]; simpa using hd1
    have hls : i < listed.size := by rw [h.inv.size]; exact hlt
    have huniq : ∀ j oj, ops[j]? = some oj → j < n → oj.dst = some d → j = i := by
      intro j oj hj hjn hjd
      have hnd := hD.2
      have e1 : ((ops.toList.take n).map (·.dst))[j]? = some (some d) := by
        rw [List.getElem?_map, List.getElem?_take, if_pos hjn]
        have : ops.toList[j]? = some oj := by simpa using hj
        rw [this]; simp [hjd]
      have e2 : ((ops.toList.take n).map (·.dst))[i]? = some (some d) := by
        rw [List.getElem?_map, List.getElem?_take, if_pos hin]
        have : ops.toList[i]? = some o := by simpa using ho
        rw [this]; simp [hod]
      exact (List.getElem?_inj (by
        have := List.getElem?_eq_some_iff.1 e1; exact this.1) hnd).1 (e1.trans e2.symm)
    have hun : listed.getD i false = false := getD_both (mem_ready.1 hi).1
    refine ⟨h.inv.set hi hin, fun hsp => ?_, by simp [Act.put, h.size], h.defers, ?_, ?_⟩
    · rw [getD_set_false hls] at hsp
      by_cases e : sp = i
      · rw [if_pos e] at hsp; cases hsp
      · rw [if_neg e] at hsp
        unfold Step2 at hb
        rw [if_neg (fun h => e h.symm)] at hb
        cases hlt2 : late i with
        | true => rw [hlt2] at hb; obtain rfl : w' = w := hb; exact h.ext hsp
        | false => rw [hlt2] at hb; exact below_trans (h.ext hsp) hb
    · intro j oj dj hj hjd hl
      rw [put_getD _ _ _ _ hds]
      rw [getD_set_false hls] at hl
      have hjn : j < n := by
        by_cases hjn : j < n
        · exact hjn
        · have hjlt : j < ops.size := (Array.getElem?_eq_some_iff.1 hj).1
          have := h.inv.tail j (by omega) hjlt
          have h2 := getD_both this
          rw [if_neg (by omega)] at hl
          rw [h2] at hl; cases hl
      by_cases hji : j = i
      · subst hji
        obtain rfl : oj = o := Option.some.inj (hj.symm.trans ho)
        obtain rfl : dj = d := Option.some.inj (hjd.symm.trans hod)
        rw [if_pos rfl]; exact hv
      · have hne : dj ≠ d := fun e => hji (huniq j oj hj hjn (e ▸ hjd))
        rw [if_neg hne]
        rw [if_neg hji] at hl
        have hd := h.done j oj dj hj hjd hl
        unfold Step2 at hb
        by_cases e : i = sp
        · rw [if_pos e] at hb
          exact hS2 _ _ _ _ (fun h => hji (h.trans e.symm)) hd hb
        · rw [if_neg e] at hb
          cases hlt2 : late i with
          | true => rw [hlt2] at hb; obtain rfl : w' = w := hb; exact hd
          | false =>
            rw [hlt2] at hb
            refine hV _ _ _ _ (fun ej => ?_) hd hb
            have := anc_listed h.inv 30 i sp (hanc i hin e hlt2) (ej ▸ hl)
            rw [this] at hun; cases hun
    · intro t ht
      have hne : t ≠ d := fun e => ht i o ho (by rw [getD_set_false hls, if_pos rfl]) (e ▸ hod)
      rw [put_getD _ _ _ _ hds, if_neg hne]
      refine h.rest t fun j oj hj hl => ht j oj hj ?_
      rw [getD_set_false hls]
      split
      · rfl
      · exact hl

theorem known_of_midst2 {n : Nat} (hanc : ∀ i, i < n → i ≠ sp → late i = false → ancB ops 30 i sp = true) {listed : Array Bool} {a : Act} {w : World} (h : Midst2 ops V sp n a0 W listed a w) {i : Nat} {o : Oper} (hin : i < n) (hi : i ∈ Region.ready .any ops listed) (ho : ops[i]? = some o) :
    Known2 ops V a0 W sp late n i o a w := by
  obtain ⟨hun, o', ho', hall⟩ := mem_ready.1 hi
  obtain rfl : o' = o := Option.some.inj (ho'.symm.trans ho)
  refine ⟨fun hl2 => h.ext ?_, fun t ht => h.rest t fun j oj hj hl => ht oj ?_, fun e he hb oe d hoe hd => h.done _ _ _ hoe hd (hall e he hb)⟩
  case refine_1 =>
    by_cases e : i = sp
    · rw [← e]; exact getD_both hun
    · cases hsp : listed.getD sp false with
      | false => rfl
      | true =>
        have := anc_listed h.inv 30 i sp (hanc i hin e hl2) hsp
        rw [getD_both hun] at this; cases this
  have hjn : j < n := by
    by_cases hjn : j < n
    · exact hjn
    · have hjlt : j < ops.size := (Array.getElem?_eq_some_iff.1 hj).1
      have := h.inv.tail j (by omega) hjlt
      have h2 := getD_both this
      rw [h2] at hl; cases hl
  have : (ops.toList.take n)[j]? = some oj := by rw [List.getElem?_take, if_pos hjn]; simpa using hj
  exact List.mem_of_getElem? this

theorem wpAny_of_vals2 {n g : Nat} (hV : ∀ i v w w', i ≠ sp → V i v w → Below w.heap.size w w' → V i v w') (hS2 : ∀ i v w w', i ≠ sp → V i v w → Sp w w' → V i v w') (hanc : ∀ i, i < n → i ≠ sp → late i = false → ancB ops 30 i sp = true) (hlate : late sp = false) (hD : dstsB ops n a0.tmps.size = true)
    (hok : ∀ i o, i < n → ops[i]? = some o → OpOk2 P ops V a0 W Q sp late Sp n i o)
    (hwait : ∀ listed, HeadInv .any ops n listed → ∀ i, i < n → listed.getD i true = false → (∃ j, j ∈ Region.ready .any ops listed) ∧ ∀ j ∈ Region.ready .any ops listed, j < n)
    (hfin : ∀ listed a w, Midst2 ops V sp n a0 W listed a w → (∀ i, i < n → listed.getD i false = true) → wpAny P .any ops Q g listed a w) :
    ∀ (f : Nat) (listed : Array Bool) (a : Act) (w : World), n ≤ ops.size → todo listed n = f → Midst2 ops V sp n a0 W listed a w → wpAny P .any ops Q (f + g) listed a w := by
  intro f
  induction f with
  | zero =>
    intro listed a w hns hf h
    rw [Nat.zero_add]
    refine hfin listed a w h fun i hi => ?_
    cases hl : listed.getD i false with
    | true => rfl
    | false =>
      exfalso
      have hm : i ∈ (List.range n).filter fun i => !listed.getD i false := List.mem_filter.2 ⟨List.mem_range.2 hi, by rw [hl]; rfl⟩
      unfold todo at hf
      rw [List.length_eq_zero_iff] at hf
      rw [hf] at hm; cases hm
  | succ f ih =>
    intro listed a w hns hf h
    rw [show f + 1 + g = (f + g) + 1 by omega]
    obtain ⟨i, hin, hun⟩ : ∃ i, i < n ∧ listed.getD i false = false := by
      unfold todo at hf
      have : ((List.range n).filter fun i => !listed.getD i false) ≠ [] := by intro e; rw [e] at hf; cases hf
      obtain ⟨i, hi⟩ := List.exists_mem_of_ne_nil _ this
      obtain ⟨h1, h2⟩ := List.mem_filter.1 hi
      exact ⟨i, List.mem_range.1 h1, by simpa using h2⟩
    have hun' : listed.getD i true = false := getD_in (by rw [h.inv.size]; omega) hun
    obtain ⟨⟨j0, hj0⟩, hall⟩ := hwait listed h.inv i hin hun'
    refine ⟨fun e => (by rw [e] at hj0; cases hj0), fun j hj => ?_⟩
    have hjn := hall j hj
    obtain ⟨hju, o, ho, _⟩ := mem_ready.1 hj
    refine wpOp_of_ok ho (hok j o hjn ho a w _ (known_of_midst2 hanc h hjn hj ho) fun v w' hb hv => ?_)
    refine ih _ _ _ hns ?_ (midst_step2 hV hS2 hanc hlate hD h hj hjn ho hb hv)
    have := todo_set (listed := listed) hjn (by rw [h.inv.size]; omega) (getD_both hju)
    omega
end

theorem wp_region_late (sp : Nat) (late : Nat → Bool) (Sp : World → World → Prop) {P : Program} {id : Nat} {Q : Exit → Act → World → Prop} {a0 : Act} {w : World} {l : List Oper} (n : Nat) (Vs : List (Value → World → Prop)) (hm : P.follows .mixedOrders = true)
    (hB : (Region.lexReady l.toArray n && decide (n < l.length) && Region.sinkB .any l.toArray n && Region.chainB .any l.toArray n) = true)
    (hS : Region.seqB .any l.toArray (l.length - n) n ((Array.replicate n true) ++ Array.replicate (l.length - n) false) = true)
    (hD : dstsB l.toArray n a0.tmps.size = true)
    (hV : ∀ i V, i ≠ sp → Vs[i]? = some V → ∀ v w w', V v w → Below w.heap.size w w' → V v w') (hV2 : ∀ i V, i ≠ sp → Vs[i]? = some V → ∀ v w w', V v w → Sp w w' → V v w')
    (hanc : ((List.range n).all fun i => i == sp || late i || ancB l.toArray 30 i sp) = true) (hlate : late sp = false)
    (hok : ∀ i o, i < n → l[i]? = some o → OpOk2 P l.toArray (nthV Vs) a0 w.drew Q sp late Sp n i o)
    (hfin : ∀ (vs : List Value) (w' : World), vs.length = n → (∀ i, i < n → nthV Vs i (vs.getD i undef) w') → wpList P l.toArray Q (l.drop n) (putAll a0 (l.take n) vs) w') :
    (Code.region id l.toArray true).wp P Q a0 w := by
  simp only [Bool.and_eq_true, decide_eq_true_iff] at hB
  obtain ⟨⟨⟨hlex, hn⟩, hsink⟩, hchain⟩ := hB
  have hsz : l.toArray.size = l.length := by simp
  have hV' : ∀ i v w w', i ≠ sp → nthV Vs i v w → Below w.heap.size w w' → nthV Vs i v w' := by
    intro i v w1 w2 hne h hb
    unfold nthV at *
    split
    · rename_i V hi; rw [hi] at h; exact hV i V hne hi _ _ _ h hb
    · trivial
  have hV2' : ∀ i v w w', i ≠ sp → nthV Vs i v w → Sp w w' → nthV Vs i v w' := by
    intro i v w1 w2 hne h hb
    unfold nthV at *
    split
    · rename_i V hi; rw [hi] at h; exact hV2 i V hne hi _ _ _ h hb
    · trivial
  have hanc' : ∀ i, i < n → i ≠ sp → late i = false → ancB l.toArray 30 i sp = true := by
    intro i hi hne hl
    have := List.all_eq_true.1 hanc i (List.mem_range.2 hi)
    simpa [hl, hne] using this
  refine wp_region_any hm ?_
  have inv0 : HeadInv .any l.toArray n (Array.replicate l.toArray.size false) :=
    ⟨by simp, fun j oj _ hl => (by rw [getD_replicate_false] at hl; cases hl), fun t _ ht => getD_in (by simpa using ht) (getD_replicate_false _ _)⟩
  have htodo : todo (Array.replicate l.toArray.size false) n = n := by
    unfold todo
    rw [List.filter_eq_self.2 (fun i _ => by rw [getD_replicate_false]; rfl), List.length_range]
  have := wpAny_of_vals2 (P := P) (ops := l.toArray) (V := nthV Vs) (a0 := a0) (W := { w with drawn := w.drawn + 1 }) (Q := Q) (n := n) (g := l.length - n) hV' hV2' hanc' hlate hD
    (fun i o hi ho => hok i o hi (by simpa using ho))
    (fun listed inv i hi hu => ⟨(ready_of_lex hlex inv.size (by omega) i hi hu).imp fun j h => h.2, fun j hj => by
      rcases Nat.lt_or_ge j n with h | h
      · exact h
      · exact absurd hj (tail_waits hsink hchain (by simpa using hn) inv _ i rfl hi hu j h)⟩)
    (fun listed a w' h hall => by
      have hlisted : listed = (Array.replicate n true) ++ Array.replicate (l.length - n) false := by
        apply Array.ext
        · rw [h.inv.size]; simp; omega
        · intro i h1 h2
          by_cases hi : i < n
          · have := hall i hi
            simp only [Array.getD_eq_getD_getElem?, Array.getElem?_eq_getElem h1, Option.getD_some] at this
            rw [this, Array.getElem_append_left (by simpa using hi)]; simp
          · have := getD_both (h.inv.tail i (by omega) (by rw [← h.inv.size]; exact h1))
            simp only [Array.getD_eq_getD_getElem?, Array.getElem?_eq_getElem h1, Option.getD_some] at this
            rw [this, Array.getElem_append_right (by simpa using hi)]; simp
      subst hlisted
      have hdl : (l.drop n).length = l.length - n := by simp
      have htake : (l.take n).length = n := by simp; omega
      obtain ⟨hD1, hD2⟩ : (∀ o ∈ l.take n, ∃ d, o.dst = some d ∧ d < a0.tmps.size) ∧ ((l.take n).map (·.dst)).Nodup := by
        simp only [dstsB, Bool.and_eq_true, List.all_eq_true, decide_eq_true_iff] at hD
        refine ⟨fun o ho => ?_, by simpa using hD.2⟩
        have := hD.1 o (by simpa using ho)
        cases hod : o.dst with
        | none => rw [hod] at this; cases this
        | some d => rw [hod] at this; exact ⟨d, rfl, by simpa using this⟩
      have ha : a = putAll a0 (l.take n) ((l.take n).map fun o => match o.dst with | some d => a.tmps.getD d undef | none => undef) := by
        refine act_ext ?_ ?_ ?_
        · rw [(putAll_get _ _ a0 0 (by simp) hD1 hD2).1, h.size]
        · rw [(putAll_get _ _ a0 0 (by simp) hD1 hD2).2.1, h.defers]
        · intro t
          obtain ⟨_, _, h3, h4⟩ := putAll_get (l.take n) ((l.take n).map fun o => match o.dst with | some d => a.tmps.getD d undef | none => undef) a0 t (by simp) hD1 hD2
          by_cases hex : ∃ i, ∃ hi : i < (l.take n).length, (l.take n)[i].dst = some t
          · obtain ⟨i, hi, ht⟩ := hex
            exact (h3 i hi (a.tmps.getD t undef) (by rw [List.getElem?_map, List.getElem?_eq_getElem hi, Option.map_some, ht]) ht).symm
          · rw [h4 fun o ho e => by
              obtain ⟨i, hi, rfl⟩ := List.getElem_of_mem ho
              exact hex ⟨i, hi, e⟩]
            refine h.rest t fun i o ho hl e => ?_
            have hin : i < n := by
              rcases Nat.lt_or_ge i n with h' | h'
              · exact h'
              · have hlt : i < l.toArray.size := (Array.getElem?_eq_some_iff.1 ho).1
                have := getD_both (h.inv.tail i h' hlt)
                rw [this] at hl; cases hl
            have ho' : l[i]? = some o := by simpa using ho
            have hlt : i < l.length := (List.getElem?_eq_some_iff.1 ho').1
            refine hex ⟨i, by simp; omega, ?_⟩
            rw [List.getElem_take]
            have : l[i] = o := by rw [List.getElem?_eq_getElem hlt] at ho'; exact Option.some.inj ho'
            rw [this]; exact e
      have hw := hfin ((l.take n).map fun o => match o.dst with | some d => a.tmps.getD d undef | none => undef) w' (by simp; omega) (fun i hi => by
        have hlt : i < l.length := by omega
        have hmem : l[i] ∈ l.take n := List.mem_of_getElem? (i := i) (by rw [List.getElem?_take, if_pos hi, List.getElem?_eq_getElem hlt])
        obtain ⟨d, hd, _⟩ := hD1 _ hmem
        have e : (((l.take n).map fun o => match o.dst with | some d => a.tmps.getD d undef | none => undef).getD i undef) = a.tmps.getD d undef := by
          rw [List.getD_eq_getElem?_getD, List.getElem?_map, List.getElem?_take, if_pos hi, List.getElem?_eq_getElem hlt]
          simp [hd]
        rw [e]
        exact h.done i l[i] d (by simp [hlt]) hd (hall i hi))
      rw [← ha] at hw
      have := wpAny_of_seq (md := .any) (Q' := Q) (l.drop n) n _ a w' (fun j => by simp [List.getElem?_drop]) (by rw [hdl]; exact hS) hw
      rwa [hdl] at this)
    n (Array.replicate l.toArray.size false) a0 { w with drawn := w.drawn + 1 } (by simpa using Nat.le_of_lt hn) htodo
    ⟨inv0, fun _ => Below.refl _ _, rfl, rfl, fun i o d _ _ hl => (by rw [getD_replicate_false] at hl; cases hl), fun t _ => rfl⟩
  rw [hsz]
  rw [hsz] at this
  rwa [show n + (l.length - n) = l.length by omega] at this
end Go
