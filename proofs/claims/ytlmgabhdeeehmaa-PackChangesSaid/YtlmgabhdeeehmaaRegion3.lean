/-
  A region that draws its order: what each operation does to the world is told operation by operation (Step); P0 stands until operation sp is done, P1 throughout. No program.
-/
import Derived.Test.YtlmgabhdeeehmaaRegion2
namespace Go
open Go.RowKit
set_option linter.unusedVariables false

section
variable {P : Program} {ops : Array Oper} {V : Nat → Value → World → Prop} {a0 : Act} {W : World} {Q : Exit → Act → World → Prop} {sp : Nat} {P0 P1 : World → Prop} {Step : Nat → World → World → Prop}

/-- What is known when an operation comes up. -/
structure Known3 (ops : Array Oper) (V : Nat → Value → World → Prop) (a0 : Act) (sp : Nat) (P0 P1 : World → Prop) (n i : Nat) (o : Oper) (a : Act) (w : World) : Prop where
  p0 : (i == sp || ancB ops 30 i sp) = true → P0 w
  p1 : P1 w
  same : ∀ t, (∀ oi ∈ ops.toList.take n, oi.dst ≠ some t) → a.tmps.getD t undef = a0.tmps.getD t undef
  deps : ∀ e ∈ o.after, Region.binds .any e = true → ∀ oe d, ops[e.on]? = some oe → oe.dst = some d → V e.on (a.tmps.getD d undef) w

/-- Operation i, whenever it comes up, yields a value of V i, which lasts. -/
def OpOk3 (P : Program) (ops : Array Oper) (V : Nat → Value → World → Prop) (a0 : Act) (Q : Exit → Act → World → Prop) (sp : Nat) (P0 P1 : World → Prop) (Step : Nat → World → World → Prop) (n : Nat) (i : Nat) (o : Oper) : Prop :=
  ∀ (a : Act) (w : World) (K : Act → World → Prop), Known3 ops V a0 sp P0 P1 n i o a w → (∀ v w', Step i w w' → V i v w' → K (a.put o.dst v) w') →
    if Region.wanted o (yielded ops a.tmps) then o.wp P a w K Q else K (a.put o.dst undef) w

/-- The state: some heads are done. -/
structure Midst3 (ops : Array Oper) (V : Nat → Value → World → Prop) (sp : Nat) (P0 P1 : World → Prop) (n : Nat) (a0 : Act) (listed : Array Bool) (a : Act) (w : World) : Prop where
  inv : HeadInv .any ops n listed
  p0 : listed.getD sp false = false → P0 w
  p1 : P1 w
  size : a.tmps.size = a0.tmps.size
  defers : a.defers = a0.defers
  done : ∀ i o d, ops[i]? = some o → o.dst = some d → listed.getD i false = true → V i (a.tmps.getD d undef) w
  rest : ∀ t, (∀ i o, ops[i]? = some o → listed.getD i false = true → o.dst ≠ some t) → a.tmps.getD t undef = a0.tmps.getD t undef

theorem midst_step3 {n : Nat} (hV : ∀ i j v w w', i < n → j < n → i ≠ j → ancB ops 30 j i = false → V i v w → Step j w w' → V i v w') (hP0 : ∀ j w w', j < n → j ≠ sp → P0 w → Step j w w' → P0 w') (hP1 : ∀ j w w', j < n → P1 w → Step j w w' → P1 w') {listed : Array Bool} {a : Act} {w : World} (hD : dstsB ops n a0.tmps.size = true)
    (h : Midst3 ops V sp P0 P1 n a0 listed a w) {i : Nat} {o : Oper} (hi : i ∈ Region.ready .any ops listed) (hin : i < n) (ho : ops[i]? = some o) {v : Value} {w' : World}
    (hb : Step i w w') (hv : V i v w') : Midst3 ops V sp P0 P1 n a0 (listed.setIfInBounds i true) (a.put o.dst v) w' := by
  simp only [dstsB, Bool.and_eq_true, List.all_eq_true, decide_eq_true_iff] at hD
  have hlt : i < ops.size := (Array.getElem?_eq_some_iff.1 ho).1
  have hmem : o ∈ ops.toList.take n := by
    have : (ops.toList.take n)[i]? = some o := by rw [List.getElem?_take, if_pos hin]; simpa using ho
    exact List.mem_of_getElem? this
  have hd1 := hD.1 o hmem
  cases hod : o.dst with
  | none => rw [hod] at hd1; cases hd1
  | some d =>
    rw [hod] at hd1
    have hds : d < a.tmps.size := by rw [h.size]; simpa using hd1
    have hls : i < listed.size := by rw [h.inv.size]; exact hlt
    have huniq : ∀ j oj, ops[j]? = some oj → j < n → oj.dst = some d → j = i := by
      intro j oj hj hjn hjd
      have hnd := hD.2
      have e1 : ((ops.toList.take n).map (·.dst))[j]? = some (some d) := by
        rw [List.getElem?_map, List.getElem?_take, if_pos hjn]
        have : ops.toList[j]? = some oj := by simpa using hj
        rw [this]; simp [hjd]
      have e2 : ((ops.toList.take n).map (·.dst))[i]? = some (some d) := by
        rw [List.getElem?_map, List.getElem?_take, if_pos hin]
        have : ops.toList[i]? = some o := by simpa using ho
        rw [this]; simp [hod]
      exact (List.getElem?_inj (by
        have := List.getElem?_eq_some_iff.1 e1; exact this.1) hnd).1 (e1.trans e2.symm)
    have hun : listed.getD i false = false := getD_both (mem_ready.1 hi).1
    refine ⟨h.inv.set hi hin, fun hsp => ?_, hP1 i _ _ hin h.p1 hb, by simp [Act.put, h.size], h.defers, ?_, ?_⟩
    · rw [getD_set_false hls] at hsp
      by_cases e : sp = i
      · rw [if_pos e] at hsp; cases hsp
      · rw [if_neg e] at hsp
        exact hP0 i _ _ hin (fun h => e h.symm) (h.p0 hsp) hb
    · intro j oj dj hj hjd hl
      rw [put_getD _ _ _ _ hds]
      rw [getD_set_false hls] at hl
      have hjn : j < n := by
        by_cases hjn : j < n
        · exact hjn
        · have hjlt : j < ops.size := (Array.getElem?_eq_some_iff.1 hj).1
          have := h.inv.tail j (by omega) hjlt
          have h2 := getD_both this
          rw [if_neg (by omega)] at hl
          rw [h2] at hl; cases hl
      by_cases hji : j = i
      · subst hji
        obtain rfl : oj = o := Option.some.inj (hj.symm.trans ho)
        obtain rfl : dj = d := Option.some.inj (hjd.symm.trans hod)
        rw [if_pos rfl]; exact hv
      · have hne : dj ≠ d := fun e => hji (huniq j oj hj hjn (e ▸ hjd))
        rw [if_neg hne]
        rw [if_neg hji] at hl
        have hd := h.done j oj dj hj hjd hl
        refine hV j i _ _ _ hjn hin hji ?_ hd hb
        cases han : ancB ops 30 i j with
        | false => rfl
        | true =>
          have := anc_listed h.inv 30 i j han hl
          rw [this] at hun; cases hun
    · intro t ht
      have hne : t ≠ d := fun e => ht i o ho (by rw [getD_set_false hls, if_pos rfl]) (e ▸ hod)
      rw [put_getD _ _ _ _ hds, if_neg hne]
      refine h.rest t fun j oj hj hl => ht j oj hj ?_
      rw [getD_set_false hls]
      split
      · rfl
      · exact hl

theorem known_of_midst3 {n : Nat} {listed : Array Bool} {a : Act} {w : World} (h : Midst3 ops V sp P0 P1 n a0 listed a w) {i : Nat} {o : Oper} (hin : i < n) (hi : i ∈ Region.ready .any ops listed) (ho : ops[i]? = some o) :
    Known3 ops V a0 sp P0 P1 n i o a w := by
  obtain ⟨hun, o', ho', hall⟩ := mem_ready.1 hi
  obtain rfl : o' = o := Option.some.inj (ho'.symm.trans ho)
  refine ⟨fun hl2 => h.p0 ?_, h.p1, fun t ht => h.rest t fun j oj hj hl => ht oj ?_, fun e he hb oe d hoe hd => h.done _ _ _ hoe hd (hall e he hb)⟩
  case refine_1 =>
    cases hsp : listed.getD sp false with
    | false => rfl
    | true =>
      rcases Bool.or_eq_true _ _ ▸ hl2 with e | e
      · have e : i = sp := by simpa using e
        rw [← e, getD_both hun] at hsp; cases hsp
      · have := anc_listed h.inv 30 i sp e hsp
        rw [getD_both hun] at this; cases this
  have hjn : j < n := by
    by_cases hjn : j < n
    · exact hjn
    · have hjlt : j < ops.size := (Array.getElem?_eq_some_iff.1 hj).1
      have := h.inv.tail j (by omega) hjlt
      have h2 := getD_both this
      rw [h2] at hl; cases hl
  have : (ops.toList.take n)[j]? = some oj := by rw [List.getElem?_take, if_pos hjn]; simpa using hj
  exact List.mem_of_getElem? this

theorem wpAny_of_vals3 {n g : Nat} (hV : ∀ i j v w w', i < n → j < n → i ≠ j → ancB ops 30 j i = false → V i v w → Step j w w' → V i v w') (hP0 : ∀ j w w', j < n → j ≠ sp → P0 w → Step j w w' → P0 w') (hP1 : ∀ j w w', j < n → P1 w → Step j w w' → P1 w') (hD : dstsB ops n a0.tmps.size = true)
    (hok : ∀ i o, i < n → ops[i]? = some o → OpOk3 P ops V a0 Q sp P0 P1 Step n i o)
    (hwait : ∀ listed, HeadInv .any ops n listed → ∀ i, i < n → listed.getD i true = false → (∃ j, j ∈ Region.ready .any ops listed) ∧ ∀ j ∈ Region.ready .any ops listed, j < n)
    (hfin : ∀ listed a w, Midst3 ops V sp P0 P1 n a0 listed a w → (∀ i, i < n → listed.getD i false = true) → wpAny P .any ops Q g listed a w) :
    ∀ (f : Nat) (listed : Array Bool) (a : Act) (w : World), n ≤ ops.size → todo listed n = f → Midst3 ops V sp P0 P1 n a0 listed a w → wpAny P .any ops Q (f + g) listed a w := by
  intro f
  induction f with
  | zero =>
    intro listed a w hns hf h
    rw [Nat.zero_add]
    refine hfin listed a w h fun i hi => ?_
    cases hl : listed.getD i false with
    | true => rfl
    | false =>
      exfalso
      have hm : i ∈ (List.range n).filter fun i => !listed.getD i false := List.mem_filter.2 ⟨List.mem_range.2 hi, by rw [hl]; rfl⟩
      unfold todo at hf
      rw [List.length_eq_zero_iff] at hf
      rw [hf] at hm; cases hm
  | succ f ih =>
    intro listed a w hns hf h
    rw [show f + 1 + g = (f + g) + 1 by omega]
    obtain ⟨i, hin, hun⟩ : ∃ i, i < n ∧ listed.getD i false = false := by
      unfold todo at hf
      have : ((List.range n).filter fun i => !listed.getD i false) ≠ [] := by intro e; rw [e] at hf; cases hf
      obtain ⟨i, hi⟩ := List.exists_mem_of_ne_nil _ this
      obtain ⟨h1, h2⟩ := List.mem_filter.1 hi
      exact ⟨i, List.mem_range.1 h1, by simpa using h2⟩
    have hun' : listed.getD i true = false := getD_in (by rw [h.inv.size]; omega) hun
    obtain ⟨⟨j0, hj0⟩, hall⟩ := hwait listed h.inv i hin hun'
    refine ⟨fun e => (by rw [e] at hj0; cases hj0), fun j hj => ?_⟩
    have hjn := hall j hj
    obtain ⟨hju, o, ho, _⟩ := mem_ready.1 hj
    refine wpOp_of_ok ho (hok j o hjn ho a w _ (known_of_midst3 h hjn hj ho) fun v w' hb hv => ?_)
    refine ih _ _ _ hns ?_ (midst_step3 hV hP0 hP1 hD h hj hjn ho hb hv)
    have := todo_set (listed := listed) hjn (by rw [h.inv.size]; omega) (getD_both hju)
    omega
end

theorem wp_region_steps (sp : Nat) (P0 P1 : World → Prop) (Step : Nat → World → World → Prop) {P : Program} {id : Nat} {Q : Exit → Act → World → Prop} {a0 : Act} {w : World} {l : List Oper} (n : Nat) (Vs : List (Value → World → Prop)) (hm : P.follows .mixedOrders = true)
    (hB : (Region.lexReady l.toArray n && decide (n < l.length) && Region.sinkB .any l.toArray n && Region.chainB .any l.toArray n) = true)
    (hS : Region.seqB .any l.toArray (l.length - n) n ((Array.replicate n true) ++ Array.replicate (l.length - n) false) = true)
    (hD : dstsB l.toArray n a0.tmps.size = true)
    (h0 : P0 w.drew) (h1 : P1 w.drew)
    (hP0 : ∀ j w w', j < n → j ≠ sp → P0 w → Step j w w' → P0 w') (hP1 : ∀ j w w', j < n → P1 w → Step j w w' → P1 w')
    (hV : ∀ i j v w w', i < n → j < n → i ≠ j → ancB l.toArray 30 j i = false → nthV Vs i v w → Step j w w' → nthV Vs i v w')
    (hok : ∀ i o, i < n → l[i]? = some o → OpOk3 P l.toArray (nthV Vs) a0 Q sp P0 P1 Step n i o)
    (hfin : ∀ (vs : List Value) (w' : World), vs.length = n → P1 w' → (∀ i, i < n → nthV Vs i (vs.getD i undef) w') → wpList P l.toArray Q (l.drop n) (putAll a0 (l.take n) vs) w') :
    (Code.region id l.toArray true).wp P Q a0 w := by
  simp only [Bool.and_eq_true, decide_eq_true_iff] at hB
  obtain ⟨⟨⟨hlex, hn⟩, hsink⟩, hchain⟩ := hB
  have hsz : l.toArray.size = l.length := by simp
  refine wp_region_any hm ?_
  have inv0 : HeadInv .any l.toArray n (Array.replicate l.toArray.size false) :=
    ⟨by simp, fun j oj _ hl => (by rw [getD_replicate_false] at hl; cases hl), fun t _ ht => getD_in (by simpa using ht) (getD_replicate_false _ _)⟩
  have htodo : todo (Array.replicate l.toArray.size false) n = n := by
    unfold todo
    rw [List.filter_eq_self.2 (fun i _ => by rw [getD_replicate_false]; rfl), List.length_range]
  have := wpAny_of_vals3 (P := P) (ops := l.toArray) (V := nthV Vs) (a0 := a0) (Q := Q) (n := n) (g := l.length - n) hV hP0 hP1 hD
    (fun i o hi ho => hok i o hi (by simpa using ho))
    (fun listed inv i hi hu => ⟨(ready_of_lex hlex inv.size (by omega) i hi hu).imp fun j h => h.2, fun j hj => by
      rcases Nat.lt_or_ge j n with h | h
      · exact h
      · exact absurd hj (tail_waits hsink hchain (by simpa using hn) inv _ i rfl hi hu j h)⟩)
    (fun listed a w' h hall => by
      have hlisted : listed = (Array.replicate n true) ++ Array.replicate (l.length - n) false := by
        apply Array.ext
        · rw [h.inv.size]; simp; omega
        · intro i h1 h2
          by_cases hi : i < n
          · have := hall i hi
            simp only [Array.getD_eq_getD_getElem?, Array.getElem?_eq_getElem h1, Option.getD_some] at this
            rw [this, Array.getElem_append_left (by simpa using hi)]; simp
          · have := getD_both (h.inv.tail i (by omega) (by rw [← h.inv.size]; exact h1))
            simp only [Array.getD_eq_getD_getElem?, Array.getElem?_eq_getElem h1, Option.getD_some] at this
            rw [this, Array.getElem_append_right (by simpa using hi)]; simp
      subst hlisted
      have hdl : (l.drop n).length = l.length - n := by simp
      have htake : (l.take n).length = n := by simp; omega
      obtain ⟨hD1, hD2⟩ : (∀ o ∈ l.take n, ∃ d, o.dst = some d ∧ d < a0.tmps.size) ∧ ((l.take n).map (·.dst)).Nodup := by
        simp only [dstsB, Bool.and_eq_true, List.all_eq_true, decide_eq_true_iff] at hD
        refine ⟨fun o ho => ?_, by simpa using hD.2⟩
        have := hD.1 o (by simpa using ho)
        cases hod : o.dst with
        | none => rw [hod] at this; cases this
        | some d => rw [hod] at this; exact ⟨d, rfl, by simpa using this⟩
      have ha : a = putAll a0 (l.take n) ((l.take n).map fun o => match o.dst with | some d => a.tmps.getD d undef | none => undef) := by
        refine act_ext ?_ ?_ ?_
        · rw [(putAll_get _ _ a0 0 (by simp) hD1 hD2).1, h.size]
        · rw [(putAll_get _ _ a0 0 (by simp) hD1 hD2).2.1, h.defers]
        · intro t
          obtain ⟨_, _, h3, h4⟩ := putAll_get (l.take n) ((l.take n).map fun o => match o.dst with | some d => a.tmps.getD d undef | none => undef) a0 t (by simp) hD1 hD2
          by_cases hex : ∃ i, ∃ hi : i < (l.take n).length, (l.take n)[i].dst = some t
          · obtain ⟨i, hi, ht⟩ := hex
            exact (h3 i hi (a.tmps.getD t undef) (by rw [List.getElem?_map, List.getElem?_eq_getElem hi, Option.map_some, ht]) ht).symm
          · rw [h4 fun o ho e => by
              obtain ⟨i, hi, rfl⟩ := List.getElem_of_mem ho
              exact hex ⟨i, hi, e⟩]
            refine h.rest t fun i o ho hl e => ?_
            have hin : i < n := by
              rcases Nat.lt_or_ge i n with h' | h'
              · exact h'
              · have hlt : i < l.toArray.size := (Array.getElem?_eq_some_iff.1 ho).1
                have := getD_both (h.inv.tail i h' hlt)
                rw [this] at hl; cases hl
            have ho' : l[i]? = some o := by simpa using ho
            have hlt : i < l.length := (List.getElem?_eq_some_iff.1 ho').1
            refine hex ⟨i, by simp; omega, ?_⟩
            rw [List.getElem_take]
            have : l[i] = o := by rw [List.getElem?_eq_getElem hlt] at ho'; exact Option.some.inj ho'
            rw [this]; exact e
      have hw := hfin ((l.take n).map fun o => match o.dst with | some d => a.tmps.getD d undef | none => undef) w' (by simp; omega) h.p1 (fun i hi => by
        have hlt : i < l.length := by omega
        have hmem : l[i] ∈ l.take n := List.mem_of_getElem? (i := i) (by rw [List.getElem?_take, if_pos hi, List.getElem?_eq_getElem hlt])
        obtain ⟨d, hd, _⟩ := hD1 _ hmem
        have e : (((l.take n).map fun o => match o.dst with | some d => a.tmps.getD d undef | none => undef).getD i undef) = a.tmps.getD d undef := by
          rw [List.getD_eq_getElem?_getD, List.getElem?_map, List.getElem?_take, if_pos hi, List.getElem?_eq_getElem hlt]
          simp [hd]
        rw [e]
        exact h.done i l[i] d (by simp [hlt]) hd (hall i hi))
      rw [← ha] at hw
      have := wpAny_of_seq (md := .any) (Q' := Q) (l.drop n) n _ a w' (fun j => by simp [List.getElem?_drop]) (by rw [hdl]; exact hS) hw
      rwa [hdl] at this)
    n (Array.replicate l.toArray.size false) a0 { w with drawn := w.drawn + 1 } (by simpa using Nat.le_of_lt hn) htodo
    ⟨inv0, fun _ => h0, h1, rfl, rfl, fun i o d _ _ hl => (by rw [getD_replicate_false] at hl; cases hl), fun t _ => rfl⟩
  rw [hsz]
  rw [hsz] at this
  rwa [show n + (l.length - n) = l.length by omega] at this
end Go
