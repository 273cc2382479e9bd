/-
  A region that draws its order, of operations whose values persist: one look at each operation serves every order. No program.
-/
import Derived.Test.YtlmgabhdeeehmaaBase
import Derived.StillTail
namespace Go
open Go.RowKit
set_option linter.unusedVariables false

section
variable {P : Program} {ops : Array Oper} {V : Nat → Value → World → Prop} {a0 : Act} {W : World} {Q : Exit → Act → World → Prop}

/-- What is known when an operation comes up. -/
structure Known (ops : Array Oper) (V : Nat → Value → World → Prop) (a0 : Act) (W : World) (n : Nat) (o : Oper) (a : Act) (w : World) : Prop where
  ext : Below W.heap.size W w
  same : ∀ t, (∀ oi ∈ ops.toList.take n, oi.dst ≠ some t) → a.tmps.getD t undef = a0.tmps.getD t undef
  deps : ∀ e ∈ o.after, Region.binds .any e = true → ∀ oe d, ops[e.on]? = some oe → oe.dst = some d → V e.on (a.tmps.getD d undef) w

/-- Operation i, whenever it comes up, yields a value of V i, which lasts. -/
def OpOk (P : Program) (ops : Array Oper) (V : Nat → Value → World → Prop) (a0 : Act) (W : World) (Q : Exit → Act → World → Prop) (n : Nat) (i : Nat) (o : Oper) : Prop :=
  ∀ (a : Act) (w : World) (K : Act → World → Prop), Known ops V a0 W n o a w → (∀ v w', Below w.heap.size w w' → V i v w' → K (a.put o.dst v) w') →
    if Region.wanted o (yielded ops a.tmps) then o.wp P a w K Q else K (a.put o.dst undef) w

/-- The state: some heads are done. -/
structure Midst (ops : Array Oper) (V : Nat → Value → World → Prop) (n : Nat) (a0 : Act) (W : World) (listed : Array Bool) (a : Act) (w : World) : Prop where
  inv : HeadInv .any ops n listed
  ext : Below W.heap.size W w
  size : a.tmps.size = a0.tmps.size
  defers : a.defers = a0.defers
  done : ∀ i o d, ops[i]? = some o → o.dst = some d → listed.getD i false = true → V i (a.tmps.getD d undef) w
  rest : ∀ t, (∀ i o, ops[i]? = some o → listed.getD i false = true → o.dst ≠ some t) → a.tmps.getD t undef = a0.tmps.getD t undef

def dstsB (ops : Array Oper) (n size : Nat) : Bool :=
  ((ops.toList.take n).all fun o => match o.dst with | some d => decide (d < size) | none => false) && decide ((ops.toList.take n).map (·.dst)).Nodup

theorem put_getD (a : Act) (d t : Nat) (v : Value) (hd : d < a.tmps.size) : (a.put (some d) v).tmps.getD t undef = if t = d then v else a.tmps.getD t undef := by
  unfold Act.put
  simp only [Array.getD_eq_getD_getElem?, Array.getElem?_setIfInBounds]
  by_cases h : d = t
  · subst h; simp [hd]
  · have h' : ¬ t = d := fun e => h e.symm
    simp [h, h']

theorem getD_set_false {listed : Array Bool} {i j : Nat} (hj : j < listed.size) : (listed.setIfInBounds j true).getD i false = if i = j then true else listed.getD i false := by
  simp only [Array.getD_eq_getD_getElem?, Array.getElem?_setIfInBounds]
  by_cases h : j = i
  · subst h; simp [hj]
  · have h' : ¬ i = j := fun e => h e.symm
    simp [h, h']

def putAll (a : Act) : List Oper → List Value → Act
  | o :: os, v :: vs => putAll (a.put o.dst v) os vs
  | _, _ => a

theorem putAll_get : ∀ (l : List Oper) (vs : List Value) (a : Act) (t : Nat), l.length = vs.length → (∀ o ∈ l, ∃ d, o.dst = some d ∧ d < a.tmps.size) → (l.map (·.dst)).Nodup →
    (putAll a l vs).tmps.size = a.tmps.size ∧ (putAll a l vs).defers = a.defers ∧
    (∀ i (h : i < l.length) v, vs[i]? = some v → l[i].dst = some t → (putAll a l vs).tmps.getD t undef = v) ∧
    ((∀ o ∈ l, o.dst ≠ some t) → (putAll a l vs).tmps.getD t undef = a.tmps.getD t undef)
  | [], [], a, t, _, _, _ => ⟨rfl, rfl, fun i h => absurd h (by simp), fun _ => rfl⟩
  | o :: l, v :: vs, a, t, hl, hd, hn => by
    obtain ⟨d, hod, hds⟩ := hd o (by simp)
    have hsz : (a.put o.dst v).tmps.size = a.tmps.size := by rw [hod]; simp [Act.put]
    have hdef : (a.put o.dst v).defers = a.defers := by rw [hod]; rfl
    simp only [List.map_cons, List.nodup_cons] at hn
    obtain ⟨h1, h2, h3, h4⟩ := putAll_get l vs (a.put o.dst v) t (by simpa using hl) (fun o' ho' => by rw [hsz]; exact hd o' (by simp [ho'])) hn.2
    refine ⟨h1.trans hsz, h2.trans hdef, ?_, ?_⟩
    · intro i hi u hu ht
      cases i with
      | zero =>
        simp only [List.getElem?_cons_zero, Option.some.injEq] at hu
        simp only [List.getElem_cons_zero] at ht
        subst hu
        show (putAll (a.put o.dst v) l vs).tmps.getD t undef = v
        rw [h4 (fun o' ho' e => hn.1 (by rw [ht, ← e]; exact List.mem_map_of_mem ho'))]
        rw [ht, put_getD _ _ _ _ (by rw [hod] at ht; injection ht with ht; rw [← ht]; exact hds), if_pos rfl]
      | succ i => exact h3 i (by simpa using hi) u (by simpa using hu) (by simpa using ht)
    · intro hno
      show (putAll (a.put o.dst v) l vs).tmps.getD t undef = _
      rw [h4 (fun o' ho' => hno o' (by simp [ho'])), hod, put_getD _ _ _ _ hds, if_neg]
      intro e; subst e; exact hno o (by simp) hod
  | [], _ :: _, _, _, h, _, _ => by simp at h
  | _ :: _, [], _, _, h, _, _ => by simp at h

theorem act_ext {a b : Act} (hs : a.tmps.size = b.tmps.size) (hd : a.defers = b.defers) (h : ∀ t, a.tmps.getD t undef = b.tmps.getD t undef) : a = b := by
  obtain ⟨ta, da⟩ := a
  obtain ⟨tb, db⟩ := b
  simp only at hs hd h
  subst hd
  congr 1
  apply Array.ext hs
  intro i h1 h2
  have := h i
  simpa [Array.getD_eq_getD_getElem?, h1, h2] using this

theorem wpOp_of_ok {i : Nat} {o : Oper} (ho : ops[i]? = some o) {a : Act} {w : World} {K : Act → World → Prop} (h : if Region.wanted o (yielded ops a.tmps) then o.wp P a w K Q else K (a.put o.dst undef) w) : wpOp P ops Q i K a w := by
  unfold wpOp
  simp only [ho]
  split
  · rename_i hw; rw [if_pos hw] at h; exact .inl h
  · rename_i hw; rw [if_neg hw] at h; exact h

theorem midst_step (hV : ∀ i v w w', V i v w → Below w.heap.size w w' → V i v w') {n : Nat} {listed : Array Bool} {a : Act} {w : World} (hD : dstsB ops n a0.tmps.size = true)
    (h : Midst ops V n a0 W listed a w) {i : Nat} {o : Oper} (hi : i ∈ Region.ready .any ops listed) (hin : i < n) (ho : ops[i]? = some o) {v : Value} {w' : World}
    (hb : Below w.heap.size w w') (hv : V i v w') : Midst ops V n a0 W (listed.setIfInBounds i true) (a.put o.dst v) w' := by
  simp only [dstsB, Bool.and_eq_true, List.all_eq_true, decide_eq_true_iff] at hD
  have hlt : i < ops.size := (Array.getElem?_eq_some_iff.1 ho).1
  have hmem : o ∈ ops.toList.take n := by
    have : (ops.toList.take n)[i]? = some o := by rw [List.getElem?_take, if_pos hin]; simpa using ho
    exact List.mem_of_getElem? this
  have hd1 := hD.1 o hmem
  cases hod : o.dst with
  | none => rw [hod] at hd1; cases hd1
  | some d =>
    rw [hod] at hd1
    have hds : d < a.tmps.size := by rw [h.size]; simpa using hd1
    have hls : i < listed.size := by rw [h.inv.size]; exact hlt
    have huniq : ∀ j oj, ops[j]? = some oj → j < n → oj.dst = some d → j = i := by
      intro j oj hj hjn hjd
      have hnd := hD.2
      have e1 : ((ops.toList.take n).map (·.dst))[j]? = some (some d) := by
        rw [List.getElem?_map, List.getElem?_take, if_pos hjn]
        have : ops.toList[j]? = some oj := by simpa using hj
        rw [this]; simp [hjd]
      have e2 : ((ops.toList.take n).map (·.dst))[i]? = some (some d) := by
        rw [List.getElem?_map, List.getElem?_take, if_pos hin]
        have : ops.toList[i]? = some o := by simpa using ho
        rw [this]; simp [hod]
      exact (List.getElem?_inj (by
        have := List.getElem?_eq_some_iff.1 e1; exact this.1) hnd).1 (e1.trans e2.symm)
    refine ⟨h.inv.set hi hin, below_trans h.ext hb, by simp [Act.put, h.size], h.defers, ?_, ?_⟩
    · intro j oj dj hj hjd hl
      rw [put_getD _ _ _ _ hds]
      rw [getD_set_false hls] at hl
      have hjn : j < n := by
        by_cases hjn : j < n
        · exact hjn
        · have hjlt : j < ops.size := (Array.getElem?_eq_some_iff.1 hj).1
          have := h.inv.tail j (by omega) hjlt
          have h2 := getD_both this
          rw [if_neg (by omega)] at hl
          rw [h2] at hl; cases hl
      by_cases hji : j = i
      · subst hji
        obtain rfl : oj = o := Option.some.inj (hj.symm.trans ho)
        obtain rfl : dj = d := Option.some.inj (hjd.symm.trans hod)
        rw [if_pos rfl]; exact hv
      · have hne : dj ≠ d := fun e => hji (huniq j oj hj hjn (e ▸ hjd))
        rw [if_neg hne]
        rw [if_neg hji] at hl
        exact hV _ _ _ _ (h.done j oj dj hj hjd hl) hb
    · intro t ht
      have hne : t ≠ d := fun e => ht i o ho (by rw [getD_set_false hls, if_pos rfl]) (e ▸ hod)
      rw [put_getD _ _ _ _ hds, if_neg hne]
      refine h.rest t fun j oj hj hl => ht j oj hj ?_
      rw [getD_set_false hls]
      split
      · rfl
      · exact hl

theorem known_of_midst {n : Nat} {listed : Array Bool} {a : Act} {w : World} (h : Midst ops V n a0 W listed a w) {i : Nat} {o : Oper} (hi : i ∈ Region.ready .any ops listed) (ho : ops[i]? = some o) :
    Known ops V a0 W n o a w := by
  obtain ⟨_, o', ho', hall⟩ := mem_ready.1 hi
  obtain rfl : o' = o := Option.some.inj (ho'.symm.trans ho)
  refine ⟨h.ext, fun t ht => h.rest t fun j oj hj hl => ht oj ?_, fun e he hb oe d hoe hd => h.done _ _ _ hoe hd (hall e he hb)⟩
  have hjn : j < n := by
    by_cases hjn : j < n
    · exact hjn
    · have hjlt : j < ops.size := (Array.getElem?_eq_some_iff.1 hj).1
      have := h.inv.tail j (by omega) hjlt
      have h2 := getD_both this
      rw [h2] at hl; cases hl
  have : (ops.toList.take n)[j]? = some oj := by rw [List.getElem?_take, if_pos hjn]; simpa using hj
  exact List.mem_of_getElem? this

/-- the heads: as many as are not done yet -/
def todo (listed : Array Bool) (n : Nat) : Nat := ((List.range n).filter fun i => !listed.getD i false).length

theorem todo_set {listed : Array Bool} {n i : Nat} (hi : i < n) (hs : i < listed.size) (hu : listed.getD i false = false) : todo listed n = todo (listed.setIfInBounds i true) n + 1 := by
  unfold todo
  have key : ∀ (l : List Nat), l.Nodup → i ∈ l → (l.filter fun j => !listed.getD j false).length = (l.filter fun j => !(listed.setIfInBounds i true).getD j false).length + 1 := by
    intro l hl him
    induction l with
    | nil => cases him
    | cons x l ih =>
      simp only [List.nodup_cons] at hl
      by_cases hx : x = i
      · subst hx
        have e1 : (l.filter fun j => !listed.getD j false) = l.filter fun j => !(listed.setIfInBounds x true).getD j false := by
          apply List.filter_congr
          intro j hj
          rw [getD_set_false hs, if_neg (show ¬ j = x from fun e => hl.1 (e ▸ hj))]
        rw [List.filter_cons, List.filter_cons, e1]
        rw [getD_set_false hs, if_pos rfl, hu]
        simp
      · have him' : i ∈ l := by
          rcases List.mem_cons.1 him with e | e
          · exact absurd e.symm hx
          · exact e
        have := ih hl.2 him'
        rw [List.filter_cons, List.filter_cons, getD_set_false hs, if_neg hx]
        split
        · simp only [List.length_cons]; omega
        · exact this
  exact key _ List.nodup_range (List.mem_range.2 hi)

theorem wpAny_of_vals (hV : ∀ i v w w', V i v w → Below w.heap.size w w' → V i v w') {n g : Nat} (hD : dstsB ops n a0.tmps.size = true)
    (hok : ∀ i o, i < n → ops[i]? = some o → OpOk P ops V a0 W Q n i o)
    (hwait : ∀ listed, HeadInv .any ops n listed → ∀ i, i < n → listed.getD i true = false → (∃ j, j ∈ Region.ready .any ops listed) ∧ ∀ j ∈ Region.ready .any ops listed, j < n)
    (hfin : ∀ listed a w, Midst ops V n a0 W listed a w → (∀ i, i < n → listed.getD i false = true) → wpAny P .any ops Q g listed a w) :
    ∀ (f : Nat) (listed : Array Bool) (a : Act) (w : World), n ≤ ops.size → todo listed n = f → Midst ops V n a0 W listed a w → wpAny P .any ops Q (f + g) listed a w := by
  intro f
  induction f with
  | zero =>
    intro listed a w hns hf h
    rw [Nat.zero_add]
    refine hfin listed a w h fun i hi => ?_
    cases hl : listed.getD i false with
    | true => rfl
    | false =>
      exfalso
      have hm : i ∈ (List.range n).filter fun i => !listed.getD i false := List.mem_filter.2 ⟨List.mem_range.2 hi, by rw [hl]; rfl⟩
      unfold todo at hf
      rw [List.length_eq_zero_iff] at hf
      rw [hf] at hm; cases hm
  | succ f ih =>
    intro listed a w hns hf h
    rw [show f + 1 + g = (f + g) + 1 by omega]
    obtain ⟨i, hin, hun⟩ : ∃ i, i < n ∧ listed.getD i false = false := by
      unfold todo at hf
      have : ((List.range n).filter fun i => !listed.getD i false) ≠ [] := by intro e; rw [e] at hf; cases hf
      obtain ⟨i, hi⟩ := List.exists_mem_of_ne_nil _ this
      obtain ⟨h1, h2⟩ := List.mem_filter.1 hi
      exact ⟨i, List.mem_range.1 h1, by simpa using h2⟩
    have hun' : listed.getD i true = false := getD_in (by rw [h.inv.size]; omega) hun
    obtain ⟨⟨j0, hj0⟩, hall⟩ := hwait listed h.inv i hin hun'
    refine ⟨fun e => (by rw [e] at hj0; cases hj0), fun j hj => ?_⟩
    have hjn := hall j hj
    obtain ⟨hju, o, ho, _⟩ := mem_ready.1 hj
    refine wpOp_of_ok ho (hok j o hjn ho a w _ (known_of_midst h hj ho) fun v w' hb hv => ?_)
    refine ih _ _ _ hns ?_ (midst_step hV hD h hj hjn ho hb hv)
    have := todo_set (listed := listed) hjn (by rw [h.inv.size]; omega) (getD_both hju)
    omega
end

/-- something is ready as long as something is to do -/
def Region.lexReady (ops : Array Oper) : Nat → Bool
  | n => (List.range n).all fun i => match ops[i]? with | some o => o.after.all fun e => !Region.binds .any e || decide (e.on < i) | none => false

theorem ready_of_lex {ops : Array Oper} {n : Nat} (h : Region.lexReady ops n = true) {listed : Array Bool} (hs : listed.size = ops.size) (hn : n ≤ ops.size) :
    ∀ (i : Nat), i < n → listed.getD i true = false → ∃ j, j ≤ i ∧ j ∈ Region.ready .any ops listed := by
  intro i
  induction i using Nat.strongRecOn with
  | _ i ih =>
    intro hi hu
    have h1 := List.all_eq_true.1 h i (List.mem_range.2 hi)
    cases ho : ops[i]? with
    | none => rw [ho] at h1; cases h1
    | some o =>
      simp only [ho] at h1
      by_cases hall : ∀ e ∈ o.after, Region.binds .any e = true → listed.getD e.on false = true
      · exact ⟨i, Nat.le_refl _, mem_ready.2 ⟨hu, o, ho, hall⟩⟩
      · simp only [Classical.not_forall] at hall
        obtain ⟨e, he, hb, hl⟩ := hall
        have h2 := Array.all_eq_true_iff_forall_mem.1 h1 e he
        simp only [hb, Bool.not_true, Bool.false_or, decide_eq_true_iff] at h2
        obtain ⟨j, hj, hr⟩ := ih e.on h2 (by omega) (getD_in (by omega) (by simpa using hl))
        exact ⟨j, by omega, hr⟩

/-- A list of what is known of each value. -/
def nthV (l : List (Value → World → Prop)) (i : Nat) (v : Value) (w : World) : Prop := match l[i]? with | some V => V v w | none => True

/-- **A region of n operations whose values last, and what comes behind them in one order alone.** -/
theorem wp_region_vals {P : Program} {id : Nat} {Q : Exit → Act → World → Prop} {a0 : Act} {w : World} {l : List Oper} (n : Nat) (Vs : List (Value → World → Prop)) (hm : P.follows .mixedOrders = true)
    (hB : (Region.lexReady l.toArray n && decide (n < l.length) && Region.sinkB .any l.toArray n && Region.chainB .any l.toArray n) = true)
    (hS : Region.seqB .any l.toArray (l.length - n) n ((Array.replicate n true) ++ Array.replicate (l.length - n) false) = true)
    (hD : dstsB l.toArray n a0.tmps.size = true)
    (hV : ∀ V ∈ Vs, ∀ v w w', V v w → Below w.heap.size w w' → V v w')
    (hok : ∀ i o, i < n → l[i]? = some o → OpOk P l.toArray (nthV Vs) a0 w.drew Q n i o)
    (hfin : ∀ (vs : List Value) (w' : World), vs.length = n → Below w.heap.size w w' → (∀ i, i < n → nthV Vs i (vs.getD i undef) w') → wpList P l.toArray Q (l.drop n) (putAll a0 (l.take n) vs) w') :
    (Code.region id l.toArray true).wp P Q a0 w := by
  simp only [Bool.and_eq_true, decide_eq_true_iff] at hB
  obtain ⟨⟨⟨hlex, hn⟩, hsink⟩, hchain⟩ := hB
  have hsz : l.toArray.size = l.length := by simp
  have hV' : ∀ i v w w', nthV Vs i v w → Below w.heap.size w w' → nthV Vs i v w' := by
    intro i v w1 w2 h hb
    unfold nthV at *
    split
    · rename_i V hi; rw [hi] at h; exact hV V (List.mem_of_getElem? hi) _ _ _ h hb
    · trivial
  refine wp_region_any hm ?_
  have inv0 : HeadInv .any l.toArray n (Array.replicate l.toArray.size false) :=
    ⟨by simp, fun j oj _ hl => (by rw [getD_replicate_false] at hl; cases hl), fun t _ ht => getD_in (by simpa using ht) (getD_replicate_false _ _)⟩
  have htodo : todo (Array.replicate l.toArray.size false) n = n := by
    unfold todo
    rw [List.filter_eq_self.2 (fun i _ => by rw [getD_replicate_false]; rfl), List.length_range]
  have := wpAny_of_vals (P := P) (ops := l.toArray) (V := nthV Vs) (a0 := a0) (W := { w with drawn := w.drawn + 1 }) (Q := Q) (n := n) (g := l.length - n) hV' hD
    (fun i o hi ho => hok i o hi (by simpa using ho))
    (fun listed inv i hi hu => ⟨(ready_of_lex hlex inv.size (by omega) i hi hu).imp fun j h => h.2, fun j hj => by
      rcases Nat.lt_or_ge j n with h | h
      · exact h
      · exact absurd hj (tail_waits hsink hchain (by simpa using hn) inv _ i rfl hi hu j h)⟩)
    (fun listed a w' h hall => by
      have hlisted : listed = (Array.replicate n true) ++ Array.replicate (l.length - n) false := by
        apply Array.ext
        · rw [h.inv.size]; simp; omega
        · intro i h1 h2
          by_cases hi : i < n
          · have := hall i hi
            simp only [Array.getD_eq_getD_getElem?, Array.getElem?_eq_getElem h1, Option.getD_some] at this
            rw [this, Array.getElem_append_left (by simpa using hi)]; simp
          · have := getD_both (h.inv.tail i (by omega) (by rw [← h.inv.size]; exact h1))
            simp only [Array.getD_eq_getD_getElem?, Array.getElem?_eq_getElem h1, Option.getD_some] at this
            rw [this, Array.getElem_append_right (by simpa using hi)]; simp
      subst hlisted
      have hdl : (l.drop n).length = l.length - n := by simp
      have hext : Below w.heap.size w w' := by
        have := h.ext
        exact ⟨this.os, this.tape, this.output, this.size, this.block⟩
      have htake : (l.take n).length = n := by simp; omega
      obtain ⟨hD1, hD2⟩ : (∀ o ∈ l.take n, ∃ d, o.dst = some d ∧ d < a0.tmps.size) ∧ ((l.take n).map (·.dst)).Nodup := by
        simp only [dstsB, Bool.and_eq_true, List.all_eq_true, decide_eq_true_iff] at hD
        refine ⟨fun o ho => ?_, by simpa using hD.2⟩
        have := hD.1 o (by simpa using ho)
        cases hod : o.dst with
        | none => rw [hod] at this; cases this
        | some d => rw [hod] at this; exact ⟨d, rfl, by simpa using this⟩
      have ha : a = putAll a0 (l.take n) ((l.take n).map fun o => match o.dst with | some d => a.tmps.getD d undef | none => undef) := by
        refine act_ext ?_ ?_ ?_
        · rw [(putAll_get _ _ a0 0 (by simp) hD1 hD2).1, h.size]
        · rw [(putAll_get _ _ a0 0 (by simp) hD1 hD2).2.1, h.defers]
        · intro t
          obtain ⟨_, _, h3, h4⟩ := putAll_get (l.take n) ((l.take n).map fun o => match o.dst with | some d => a.tmps.getD d undef | none => undef) a0 t (by simp) hD1 hD2
          by_cases hex : ∃ i, ∃ hi : i < (l.take n).length, (l.take n)[i].dst = some t
          · obtain ⟨i, hi, ht⟩ := hex
            exact (h3 i hi (a.tmps.getD t undef) (by rw [List.getElem?_map, List.getElem?_eq_getElem hi, Option.map_some, ht]) ht).symm
          · rw [h4 fun o ho e => by
              obtain ⟨i, hi, rfl⟩ := List.getElem_of_mem ho
              exact hex ⟨i, hi, e⟩]
            refine h.rest t fun i o ho hl e => ?_
            have hin : i < n := by
              rcases Nat.lt_or_ge i n with h' | h'
              · exact h'
              · have hlt : i < l.toArray.size := (Array.getElem?_eq_some_iff.1 ho).1
                have := getD_both (h.inv.tail i h' hlt)
                rw [this] at hl; cases hl
            have ho' : l[i]? = some o := by simpa using ho
            have hlt : i < l.length := (List.getElem?_eq_some_iff.1 ho').1
            refine hex ⟨i, by simp; omega, ?_⟩
            rw [List.getElem_take]
            have : l[i] = o := by rw [List.getElem?_eq_getElem hlt] at ho'; exact Option.some.inj ho'
            rw [this]; exact e
      have hw := hfin ((l.take n).map fun o => match o.dst with | some d => a.tmps.getD d undef | none => undef) w' (by simp; omega) hext (fun i hi => by
        have hlt : i < l.length := by omega
        have hmem : l[i] ∈ l.take n := List.mem_of_getElem? (i := i) (by rw [List.getElem?_take, if_pos hi, List.getElem?_eq_getElem hlt])
        obtain ⟨d, hd, _⟩ := hD1 _ hmem
        have e : (((l.take n).map fun o => match o.dst with | some d => a.tmps.getD d undef | none => undef).getD i undef) = a.tmps.getD d undef := by
          rw [List.getD_eq_getElem?_getD, List.getElem?_map, List.getElem?_take, if_pos hi, List.getElem?_eq_getElem hlt]
          simp [hd]
        rw [e]
        exact h.done i l[i] d (by simp [hlt]) hd (hall i hi))
      rw [← ha] at hw
      have := wpAny_of_seq (md := .any) (Q' := Q) (l.drop n) n _ a w' (fun j => by simp [List.getElem?_drop]) (by rw [hdl]; exact hS) hw
      rwa [hdl] at this)
    n (Array.replicate l.toArray.size false) a0 { w with drawn := w.drawn + 1 } (by simpa using Nat.le_of_lt hn) htodo
    ⟨inv0, Below.refl _ _, rfl, rfl, fun i o d _ _ hl => (by rw [getD_replicate_false] at hl; cases hl), fun t _ => rfl⟩
  rw [hsz]
  rw [hsz] at this
  rwa [show n + (l.length - n) = l.length by omega] at this
end Go
