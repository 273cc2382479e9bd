/-
  Lists of changes, one after the other: the law without the program.
-/
import Derived.Test.YtlmgabhdeeehmaaChg2
import Derived.Test.YtlmgabhdeeehmaaOrdPure
namespace Go.Proofs.Ytlmgabhdeeehmaa
set_option linter.unusedVariables false

@[irreducible] def pkey (p : List Nat) : Nat := Zb.key p 64
def Ch.key (c : Ch) : Nat := pkey c.p
/-- an entry -/
structure En where
  p : List Nat
  v : Nat
def En.key (e : En) : Nat := pkey e.p

theorem cmp_neg (p q : List Nat) : Zb.cmp p q < 0 ↔ pkey p < pkey q := by
  unfold Zb.cmp pkey; split
  · simp; assumption
  · split <;> simp <;> omega
theorem cmp_pos (p q : List Nat) : 0 < Zb.cmp p q ↔ pkey q < pkey p := by
  unfold Zb.cmp pkey; split
  · simp; omega
  · split <;> simp <;> omega
theorem cmp_zero (p q : List Nat) : Zb.cmp p q = 0 ↔ pkey p = pkey q := by
  unfold Zb.cmp pkey; split
  · simp; omega
  · split <;> simp <;> omega

/-- a right list, as a proposition -/
structure Rt (k : Nat) (l : List Ch) : Prop where
  len : ∀ c ∈ l, c.p.length = k
  right : ∀ c ∈ l, c.right = true
  asc : Od.Asc Ch.key l
  ok : OkC l

theorem chainB_asc (k : Nat) (pr : Option (List Nat)) (l : List Ch) (h : chainB k pr l = true) :
    (∀ c ∈ l, c.p.length = k) ∧ (∀ c ∈ l, c.right = true) ∧ Od.Asc Ch.key l ∧ ∀ p, pr = some p → ∀ c ∈ l, pkey p < c.key := by
  induction l generalizing pr with
  | nil => exact ⟨fun c h => by simp at h, fun c h => by simp at h, List.Pairwise.nil, fun p _ c h => by simp at h⟩
  | cons c l ih =>
    unfold chainB at h
    simp only [Bool.and_eq_true, decide_eq_true_eq] at h
    obtain ⟨⟨⟨h1, h2⟩, h3⟩, h4⟩ := h
    obtain ⟨i1, i2, i3, i4⟩ := ih _ h4
    refine ⟨?_, ?_, i3.cons (i4 c.p rfl), ?_⟩
    · intro d hd
      rcases List.mem_cons.1 hd with rfl | hd
      · exact_mod_cast h1
      · exact i1 d hd
    · intro d hd
      rcases List.mem_cons.1 hd with rfl | hd
      · exact h2
      · exact i2 d hd
    · intro p hp d hd
      subst hp
      simp only [decide_eq_true_eq] at h3
      have h5 := (cmp_neg _ _).1 h3
      rcases List.mem_cons.1 hd with rfl | hd
      · exact h5
      · have := i4 c.p rfl d hd
        have h6 : pkey c.p = c.key := rfl
        omega
theorem chainB_of (k : Nat) (pr : Option (List Nat)) (l : List Ch) (h1 : ∀ c ∈ l, c.p.length = k) (h2 : ∀ c ∈ l, c.right = true) (h3 : Od.Asc Ch.key l) (h4 : ∀ p, pr = some p → ∀ c ∈ l, pkey p < c.key) : chainB k pr l = true := by
  induction l generalizing pr with
  | nil => rfl
  | cons c l ih =>
    unfold chainB
    rw [ih (some c.p) (fun d hd => h1 d (List.mem_cons_of_mem _ hd)) (fun d hd => h2 d (List.mem_cons_of_mem _ hd)) h3.tail (fun p hp d hd => by injection hp with hp; subst hp; exact h3.head d hd)]
    have e1 := h1 c (List.mem_cons_self ..)
    have e2 := h2 c (List.mem_cons_self ..)
    rw [e2, e1]
    cases pr with
    | none => simp
    | some p =>
      have := (cmp_neg p c.p).2 (h4 p rfl c (List.mem_cons_self ..))
      simp [this]
theorem rightL_rt {k : Int} {l : List Ch} (hok : OkC l) (h : rightL k l = true) : ∃ n : Nat, k = n ∧ 1 ≤ n ∧ n ≤ 16 ∧ Rt n l := by
  unfold rightL at h
  simp only [Bool.and_eq_true, decide_eq_true_eq] at h
  obtain ⟨⟨h1, h2⟩, h3⟩ := h
  obtain ⟨n, rfl⟩ : ∃ n : Nat, k = n := ⟨k.toNat, by omega⟩
  obtain ⟨c1, c2, c3, _⟩ := chainB_asc n none l h3
  exact ⟨n, rfl, by omega, by omega, c1, c2, c3, hok⟩
theorem rt_rightL {n : Nat} {l : List Ch} (h1 : 1 ≤ n) (h2 : n ≤ 16) (h : Rt n l) : rightL n l = true := by
  unfold rightL
  rw [chainB_of n none l h.len h.right h.asc (fun p hp => by cases hp), decide_eq_true (by omega)]
  rfl
theorem key_inj' {p q : List Nat} (hl : p.length = q.length) (hp : ∀ c ∈ p, c < 2 ^ 64) (hq : ∀ c ∈ q, c < 2 ^ 64) (h : pkey p = pkey q) : p = q := Zb.key_inj hl hp hq (by unfold pkey at h; exact h)
theorem Ch.ext' {c d : Ch} (h : c.p = d.p) (h1 : c.had = d.had) (h2 : c.has = d.has) (h3 : c.old = d.old) (h4 : c.new = d.new) : c = d := by
  cases c; cases d; simp_all

/-- two lists gone through at once -/
def pairsL : Nat → List Ch → List Ch → List (Option Ch × Option Ch)
  | 0, _, _ => []
  | _ + 1, [], [] => []
  | n + 1, x :: a, [] => (some x, none) :: pairsL n a []
  | n + 1, [], y :: b => (none, some y) :: pairsL n [] b
  | n + 1, x :: a, y :: b => if Zb.cmp x.p y.p < 0 then (some x, none) :: pairsL n a (y :: b) else if 0 < Zb.cmp x.p y.p then (none, some y) :: pairsL n (x :: a) b else (some x, some y) :: pairsL n a b
def joinC (x y : Ch) : Ch := ⟨x.p, x.had, y.has, x.old, y.new⟩
def combC : Option Ch × Option Ch → Option Ch
  | (some x, none) => some x
  | (none, some y) => some y
  | (some x, some y) => if (joinC x y).right then some (joinC x y) else none
  | (none, none) => none
def fitC : Option Ch × Option Ch → Bool
  | (some x, some y) => !(x.has != y.had || decide ((x.new : Int) ≠ y.old))
  | _ => true
def apartC : Option Ch × Option Ch → Bool
  | (some x, some y) => false
  | _ => true
/-- the point's key -/
def keyC : Option Ch × Option Ch → Nat
  | (some x, _) => x.key
  | (none, some y) => y.key
  | (none, none) => 0
def pairs (a b : List Ch) := pairsL (a.length + b.length) a b

/-- what a pair holds at a key -/
def PairAt (a b : List Ch) (p : Option Ch × Option Ch) : Prop := p = (Od.look Ch.key a (keyC p), Od.look Ch.key b (keyC p)) ∧ p ≠ (none, none)
theorem pairsL_spec (n : Nat) (a b : List Ch) (hn : a.length + b.length ≤ n) (ha : Od.Asc Ch.key a) (hb : Od.Asc Ch.key b) :
    Od.Asc keyC (pairsL n a b) ∧ (∀ m, Od.look keyC (pairsL n a b) m = if Od.look Ch.key a m = none ∧ Od.look Ch.key b m = none then none else some (Od.look Ch.key a m, Od.look Ch.key b m)) ∧
    (∀ p ∈ pairsL n a b, (∃ x ∈ a, keyC p = x.key) ∨ ∃ y ∈ b, keyC p = y.key) := by
  induction n generalizing a b with
  | zero =>
    obtain rfl : a = [] := List.eq_nil_of_length_eq_zero (by omega)
    obtain rfl : b = [] := List.eq_nil_of_length_eq_zero (by omega)
    exact ⟨List.Pairwise.nil, fun m => by simp [pairsL, Od.look_nil], fun p hp => by simp [pairsL] at hp⟩
  | succ n ih =>
    cases a with
    | nil =>
      cases b with
      | nil => exact ⟨List.Pairwise.nil, fun m => by simp [pairsL, Od.look_nil], fun p hp => by simp [pairsL] at hp⟩
      | cons y b =>
        obtain ⟨i1, i2, i3⟩ := ih [] b (by simp at hn ⊢; omega) ha hb.tail
        unfold pairsL
        refine ⟨i1.cons fun p hp => ?_, fun m => ?_, fun p hp => ?_⟩
        · rcases i3 p hp with ⟨x, hx, _⟩ | ⟨z, hz, e⟩
          · simp at hx
          · rw [e]; exact hb.head z hz
        · rw [Od.look_cons, i2, Od.look_nil, Od.look_cons]
          show (if y.key = m then _ else _) = _
          by_cases h : y.key = m
          · simp [h]
          · simp [h]
        · rcases List.mem_cons.1 hp with rfl | hp
          · exact .inr ⟨y, List.mem_cons_self .., rfl⟩
          · rcases i3 p hp with ⟨x, hx, _⟩ | ⟨z, hz, e⟩
            · simp at hx
            · exact .inr ⟨z, List.mem_cons_of_mem _ hz, e⟩
    | cons x a =>
      cases b with
      | nil =>
        obtain ⟨i1, i2, i3⟩ := ih a [] (by simp at hn ⊢; omega) ha.tail hb
        unfold pairsL
        refine ⟨i1.cons fun p hp => ?_, fun m => ?_, fun p hp => ?_⟩
        · rcases i3 p hp with ⟨z, hz, e⟩ | ⟨x, hx, _⟩
          · rw [e]; exact ha.head z hz
          · simp at hx
        · rw [Od.look_cons, i2, Od.look_nil, Od.look_cons]
          show (if x.key = m then _ else _) = _
          by_cases h : x.key = m
          · simp [h]
          · simp [h]
        · rcases List.mem_cons.1 hp with rfl | hp
          · exact .inl ⟨x, List.mem_cons_self .., rfl⟩
          · rcases i3 p hp with ⟨z, hz, e⟩ | ⟨x, hx, _⟩
            · exact .inl ⟨z, List.mem_cons_of_mem _ hz, e⟩
            · simp at hx
      | cons y b =>
        unfold pairsL
        have kx : pkey x.p = x.key := rfl
        have ky : pkey y.p = y.key := rfl
        by_cases h1 : Zb.cmp x.p y.p < 0
        · rw [if_pos h1]
          have h2 := (cmp_neg _ _).1 h1
          obtain ⟨i1, i2, i3⟩ := ih a (y :: b) (by simp at hn ⊢; omega) ha.tail hb
          refine ⟨i1.cons fun p hp => ?_, fun m => ?_, fun p hp => ?_⟩
          · show x.key < _
            rcases i3 p hp with ⟨z, hz, e⟩ | ⟨z, hz, e⟩
            · rw [e]; exact ha.head z hz
            · rw [e]; rcases List.mem_cons.1 hz with rfl | hz
              · omega
              · have := hb.head z hz; omega
          · rw [Od.look_cons, i2, Od.look_cons Ch.key x]
            show (if x.key = m then _ else _) = _
            by_cases h : x.key = m
            · rw [Od.look_cons, if_neg (by omega : ¬ y.key = m), Od.look_below hb (by omega)]; simp [h]
            · simp [h]
          · rcases List.mem_cons.1 hp with rfl | hp
            · exact .inl ⟨x, List.mem_cons_self .., rfl⟩
            · rcases i3 p hp with ⟨z, hz, e⟩ | ⟨z, hz, e⟩
              · exact .inl ⟨z, List.mem_cons_of_mem _ hz, e⟩
              · exact .inr ⟨z, hz, e⟩
        · rw [if_neg h1]
          by_cases h3 : 0 < Zb.cmp x.p y.p
          · rw [if_pos h3]
            have h2 := (cmp_pos _ _).1 h3
            obtain ⟨i1, i2, i3⟩ := ih (x :: a) b (by simp at hn ⊢; omega) ha hb.tail
            refine ⟨i1.cons fun p hp => ?_, fun m => ?_, fun p hp => ?_⟩
            · show y.key < _
              rcases i3 p hp with ⟨z, hz, e⟩ | ⟨z, hz, e⟩
              · rw [e]; rcases List.mem_cons.1 hz with rfl | hz
                · omega
                · have := ha.head z hz; omega
              · rw [e]; exact hb.head z hz
            · rw [Od.look_cons, i2, Od.look_cons Ch.key y]
              show (if y.key = m then _ else _) = _
              by_cases h : y.key = m
              · rw [Od.look_cons, if_neg (by omega : ¬ x.key = m), Od.look_below ha (by omega)]; simp [h]
              · simp [h]
            · rcases List.mem_cons.1 hp with rfl | hp
              · exact .inr ⟨y, List.mem_cons_self .., rfl⟩
              · rcases i3 p hp with ⟨z, hz, e⟩ | ⟨z, hz, e⟩
                · exact .inl ⟨z, hz, e⟩
                · exact .inr ⟨z, List.mem_cons_of_mem _ hz, e⟩
          · rw [if_neg h3]
            have h2 : x.key = y.key := (cmp_zero _ _).1 (by omega)
            obtain ⟨i1, i2, i3⟩ := ih a b (by simp at hn ⊢; omega) ha.tail hb.tail
            refine ⟨i1.cons fun p hp => ?_, fun m => ?_, fun p hp => ?_⟩
            · show x.key < _
              rcases i3 p hp with ⟨z, hz, e⟩ | ⟨z, hz, e⟩
              · rw [e]; exact ha.head z hz
              · rw [e, h2]; exact hb.head z hz
            · rw [Od.look_cons, i2, Od.look_cons Ch.key x, Od.look_cons Ch.key y]
              show (if x.key = m then _ else _) = _
              by_cases h : x.key = m
              · rw [if_pos h, if_pos h, if_pos (by omega : y.key = m)]; simp
              · rw [if_neg h, if_neg h, if_neg (by omega : ¬ y.key = m)]
            · rcases List.mem_cons.1 hp with rfl | hp
              · exact .inl ⟨x, List.mem_cons_self .., rfl⟩
              · rcases i3 p hp with ⟨z, hz, e⟩ | ⟨z, hz, e⟩
                · exact .inl ⟨z, List.mem_cons_of_mem _ hz, e⟩
                · exact .inr ⟨z, List.mem_cons_of_mem _ hz, e⟩

/-- edit.Then, edit.Apart -/
def thenL (a b : List Ch) : Option (List Ch) := if (pairs a b).all fitC then some ((pairs a b).filterMap combC) else none
def apartL (a b : List Ch) : Bool := (pairs a b).all apartC

/-- the document's: the entries that a list had -/
def beforeL (a : List Ch) : List En := a.filterMap fun c => if c.had then some ⟨c.p, c.old⟩ else none
def atL (l : List Ch) (p : List Nat) : Option Ch := l.find? fun c => decide (c.p = p)
def insE (p : List Nat) (v : Nat) (l : List En) : List En := Od.ins En.key ⟨p, v⟩ l
def delE (p : List Nat) (l : List En) : List En := Od.del En.key (pkey p) l
def getE (l : List En) (p : List Nat) : Option Nat := (Od.look En.key l (pkey p)).map (·.v)
def doL (e : List En) : List Ch → List En
  | [] => e
  | c :: l => doL (if c.has then insE c.p c.new e else delE c.p e) l
def unfitC (a : List Ch) (c : Ch) : Bool := match atL a c.p with
  | some x => x.has != c.had || decide ((x.new : Int) ≠ c.old)
  | none => false
def wasL (a : List Ch) : List En → List Ch → List En
  | e, [] => e
  | e, c :: b => wasL a (if (atL a c.p).isNone && c.had then insE c.p c.old e else e) b
def pointsL (a : List En) : List En → List En
  | [] => a
  | e :: b => pointsL (insE e.p 0 a) b
def valO (b : Bool) (v : Nat) : Option Nat := if b then some v else none
def changeOf (p : List Nat) (A B : Option Nat) : Option Ch := if A.isSome != B.isSome || decide (((A.getD 0 : Nat) : Int) ≠ (B.getD 0 : Nat)) then some ⟨p, A.isSome, B.isSome, A.getD 0, B.getD 0⟩ else none
def changeL (a b : List En) (p : List Nat) : Option Ch := changeOf p (getE a p) (getE b p)
def changesL (a b : List En) : List Ch := (pointsL a b).filterMap fun e => changeL a b e.p
def rthenL (a b : List Ch) : Option (List Ch) := if b.any (unfitC a) then none else some (changesL (wasL a (beforeL a) b) (doL (doL (wasL a (beforeL a) b) a) b))
def rapartL (a b : List Ch) : Bool := a.all fun c => (atL b c.p).isNone

/-- entries of points of k coordinates, in order -/
structure Et (k : Nat) (l : List En) : Prop where
  asc : Od.Asc En.key l
  len : ∀ e ∈ l, e.p.length = k
  ok : ∀ e ∈ l, ∀ x ∈ e.p, x < 2 ^ 64

theorem Et.ins {k : Nat} {l : List En} (h : Et k l) {p : List Nat} (v : Nat) (hl : p.length = k) (hp : ∀ x ∈ p, x < 2 ^ 64) : Et k (insE p v l) := by
  refine ⟨(Od.asc_ins h.asc).1, fun e he => ?_, fun e he => ?_⟩
  · rcases Od.mem_ins he with rfl | he
    · exact hl
    · exact h.len e he
  · rcases Od.mem_ins he with rfl | he
    · exact hp
    · exact h.ok e he
theorem Et.del {k : Nat} {l : List En} (h : Et k l) (p : List Nat) : Et k (delE p l) :=
  ⟨(Od.asc_del h.asc).1, fun e he => h.len e (Od.mem_del he), fun e he => h.ok e (Od.mem_del he)⟩

theorem atL_look {k : Nat} {l : List Ch} (h : Rt k l) {p : List Nat} (hl : p.length = k) (hp : ∀ x ∈ p, x < 2 ^ 64) : atL l p = Od.look Ch.key l (pkey p) := by
  have key : ∀ (m : List Ch), (∀ c ∈ m, c ∈ l) → m.find? (fun c => decide (c.p = p)) = m.find? (fun c => c.key == pkey p) := by
    intro m
    induction m with
    | nil => intro _; rfl
    | cons c m ih =>
      intro hm
      rw [List.find?_cons, List.find?_cons, ih fun d hd => hm d (List.mem_cons_of_mem _ hd)]
      have hc := hm c (List.mem_cons_self ..)
      have : decide (c.p = p) = (c.key == pkey p) := by
        apply bool_ext
        simp only [decide_eq_true_eq, beq_iff_eq]
        exact ⟨fun e => by rw [← e]; rfl, fun e => key_inj' (by rw [h.len c hc, hl]) (h.ok c hc) hp e⟩
      rw [this]
  exact key l fun _ h => h

theorem beforeL_spec {k : Nat} {a : List Ch} (h : Rt k a) : Et k (beforeL a) ∧ ∀ n, Od.look En.key (beforeL a) n = (Od.look Ch.key a n).bind fun c => if c.had then some ⟨c.p, c.old⟩ else none := by
  have s := Od.asc_filterMap (key' := En.key) (f := fun c : Ch => if c.had then some (⟨c.p, c.old⟩ : En) else none) h.asc (fun x _ y hy => by
    split at hy
    · injection hy with hy; subst hy; rfl
    · cases hy)
  refine ⟨⟨s.1, fun e he => ?_, fun e he => ?_⟩, s.2⟩
  all_goals
    obtain ⟨c, hc, e1⟩ := List.mem_filterMap.1 he
    split at e1
    · injection e1 with e1; subst e1
      first | exact h.len c hc | exact h.ok c hc
    · cases e1

theorem doL_spec {k : Nat} {l : List Ch} (h : Rt k l) (e : List En) (he : Et k e) :
    Et k (doL e l) ∧ ∀ n, Od.look En.key (doL e l) n = match Od.look Ch.key l n with | none => Od.look En.key e n | some c => if c.has then some ⟨c.p, c.new⟩ else none := by
  induction l generalizing e with
  | nil => exact ⟨he, fun n => rfl⟩
  | cons c l ih =>
    have hc := List.mem_cons_self (a := c) (l := l)
    have ht : Rt k l := ⟨fun d hd => h.len d (List.mem_cons_of_mem _ hd), fun d hd => h.right d (List.mem_cons_of_mem _ hd), h.asc.tail, fun d hd => h.ok d (List.mem_cons_of_mem _ hd)⟩
    unfold doL
    have he' : Et k (if c.has then insE c.p c.new e else delE c.p e) := by
      split
      · exact he.ins _ (h.len c hc) (h.ok c hc)
      · exact he.del _
    obtain ⟨i1, i2⟩ := ih ht _ he'
    refine ⟨i1, fun n => ?_⟩
    rw [i2, Od.look_cons]
    by_cases hn : c.key = n
    · rw [if_pos hn, Od.look_below h.asc (by omega)]
      simp only
      split
      · rw [insE, (Od.asc_ins he.asc).2]
        have : (⟨c.p, c.new⟩ : En).key = n := hn
        rw [if_pos this]
      · rw [delE, (Od.asc_del he.asc).2]
        have : pkey c.p = n := hn
        rw [if_pos this]
    · rw [if_neg hn]
      cases e1 : Od.look Ch.key l n with
      | some d => rfl
      | none =>
        simp only
        split
        · rw [insE, (Od.asc_ins he.asc).2]
          have : ¬ (⟨c.p, c.new⟩ : En).key = n := hn
          rw [if_neg this]
        · rw [delE, (Od.asc_del he.asc).2]
          have : ¬ pkey c.p = n := hn
          rw [if_neg this]

theorem wasL_spec {k : Nat} {a b : List Ch} (ha : Rt k a) (h : Rt k b) (e : List En) (he : Et k e) :
    Et k (wasL a e b) ∧ ∀ n, Od.look En.key (wasL a e b) n = match Od.look Ch.key a n, Od.look Ch.key b n with | none, some c => if c.had then some ⟨c.p, c.old⟩ else Od.look En.key e n | _, _ => Od.look En.key e n := by
  induction b generalizing e with
  | nil => refine ⟨he, fun n => ?_⟩; rw [Od.look_nil]; cases Od.look Ch.key a n <;> rfl
  | cons c b ih =>
    have hc := List.mem_cons_self (a := c) (l := b)
    have ht : Rt k b := ⟨fun d hd => h.len d (List.mem_cons_of_mem _ hd), fun d hd => h.right d (List.mem_cons_of_mem _ hd), h.asc.tail, fun d hd => h.ok d (List.mem_cons_of_mem _ hd)⟩
    have hat := atL_look ha (h.len c hc) (h.ok c hc)
    have hk : pkey c.p = c.key := rfl
    rw [hk] at hat
    unfold wasL
    rw [hat]
    have he' : Et k (if (Od.look Ch.key a c.key).isNone && c.had then insE c.p c.old e else e) := by
      split
      · exact he.ins _ (h.len c hc) (h.ok c hc)
      · exact he
    obtain ⟨i1, i2⟩ := ih ht _ he'
    refine ⟨i1, fun n => ?_⟩
    rw [i2, Od.look_cons]
    by_cases hn : c.key = n
    · rw [if_pos hn, Od.look_below h.asc (by omega), hn]
      cases e1 : Od.look Ch.key a n with
      | some x => simp
      | none =>
        cases e2 : c.had with
        | false => simp [e2]
        | true =>
          simp only [Option.isNone_none, Bool.and_self, if_true, e2]
          rw [insE, (Od.asc_ins he.asc).2]
          have : (⟨c.p, c.old⟩ : En).key = n := hn
          rw [if_pos this]
    · rw [if_neg hn]
      have hl : Od.look En.key (if (Od.look Ch.key a c.key).isNone && c.had then insE c.p c.old e else e) n = Od.look En.key e n := by
        split
        · rw [insE, (Od.asc_ins he.asc).2]
          have : ¬ (⟨c.p, c.old⟩ : En).key = n := hn
          rw [if_neg this]
        · rfl
      rw [hl]

theorem pointsL_spec {k : Nat} {b : List En} (h : Et k b) (a : List En) (ha : Et k a) :
    Et k (pointsL a b) ∧ ∀ n, ((Od.look En.key (pointsL a b) n).isSome = ((Od.look En.key a n).isSome || (Od.look En.key b n).isSome)) := by
  induction b generalizing a with
  | nil => exact ⟨ha, fun n => by simp [pointsL, Od.look_nil]⟩
  | cons e b ih =>
    have hc := List.mem_cons_self (a := e) (l := b)
    have ht : Et k b := ⟨h.asc.tail, fun d hd => h.len d (List.mem_cons_of_mem _ hd), fun d hd => h.ok d (List.mem_cons_of_mem _ hd)⟩
    obtain ⟨i1, i2⟩ := ih ht _ (ha.ins (p := e.p) 0 (h.len e hc) (h.ok e hc))
    unfold pointsL
    refine ⟨i1, fun n => ?_⟩
    rw [i2, insE, (Od.asc_ins ha.asc).2, Od.look_cons]
    have hk : (⟨e.p, 0⟩ : En).key = e.key := rfl
    rw [hk]
    by_cases hn : e.key = n
    · simp [hn]
    · simp [hn]

theorem changesL_spec {k : Nat} {a b : List En} (ha : Et k a) (hb : Et k b) :
    Od.Asc Ch.key (changesL a b) ∧ ∀ n, Od.look Ch.key (changesL a b) n = (Od.look En.key (pointsL a b) n).bind fun e => changeL a b e.p := by
  obtain ⟨p1, p2⟩ := pointsL_spec hb a ha
  exact Od.asc_filterMap (key' := Ch.key) (f := fun e : En => changeL a b e.p) p1.asc (fun x _ y hy => by
    unfold changeL changeOf at hy
    split at hy
    · injection hy with hy; subst hy; rfl
    · cases hy)

/-- two look-ups -/
theorem point_of {k : Nat} {l : List En} (h : Et k l) {n : Nat} {e : En} (he : Od.look En.key l n = some e) : e ∈ l ∧ e.key = n := Od.look_some he

theorem right_parts {c : Ch} (h : c.right = true) : (c.had = true ∨ c.has = true) ∧ (c.had = false → c.old = 0) ∧ (c.has = false → c.new = 0) ∧ ((c.had != c.has || decide ((c.old : Int) ≠ c.new)) = true) := by
  cases c with
  | mk p had has old new =>
    unfold Ch.right rightBits at h
    simp only at h ⊢
    cases had <;> cases has <;> simp_all
theorem chg_join (p : List Nat) (had has : Bool) (old new : Nat) (h1 : had = false → old = 0) (h2 : has = false → new = 0) :
    changeOf p (valO had old) (valO has new) = if (⟨p, had, has, old, new⟩ : Ch).right then some ⟨p, had, has, old, new⟩ else none := by
  unfold changeOf valO Ch.right rightBits
  cases had <;> cases has <;> simp_all <;> by_cases e : old = new <;> simp_all
theorem chg_one (p : List Nat) (c : Ch) (h : c.right = true) (hp : p = c.p) : changeOf p (valO c.had c.old) (valO c.has c.new) = some c := by
  obtain ⟨r1, r2, r3, r4⟩ := right_parts h
  cases c with
  | mk q had has old new =>
    simp only at hp r2 r3
    subst hp
    rw [chg_join _ _ _ _ _ r2 r3, if_pos h]
theorem map_valO (b : Bool) (e : En) : (if b then some e else none : Option En).map (·.v) = valO b e.v := by cases b <;> rfl

/-- ONE AFTER THE OTHER is what the document says -/
theorem then_law {k : Nat} {a b : List Ch} (ha : Rt k a) (hb : Rt k b) : thenL a b = rthenL a b := by
  obtain ⟨s1, s2, s3⟩ := pairsL_spec (a.length + b.length) a b (Nat.le_refl _) ha.asc hb.asc
  have hfit : (pairs a b).all fitC = !b.any (unfitC a) := by
    apply bool_ext
    simp only [List.all_eq_true, Bool.not_eq_true', List.any_eq_false, Bool.not_eq_true]
    constructor
    · intro h c hc
      unfold unfitC
      rw [atL_look ha (hb.len c hc) (hb.ok c hc)]
      cases e : Od.look Ch.key a (pkey c.p) with
      | none => rfl
      | some x =>
        have e2 : Od.look Ch.key b (pkey c.p) = some c := Od.look_mem hb.asc hc
        have e3 := s2 (pkey c.p)
        rw [e, e2] at e3
        simp only [reduceCtorEq, and_self, if_false] at e3
        have := h _ (Od.look_some e3).1
        simpa [fitC] using this
    · intro h p hp
      have e3 := Od.look_mem s1 hp
      rw [s2] at e3
      split at e3
      · cases e3
      · injection e3 with e3
        rw [← e3]
        cases e1 : Od.look Ch.key a (keyC p) with
        | none => rfl
        | some x =>
          cases e2 : Od.look Ch.key b (keyC p) with
          | none => rfl
          | some y =>
            obtain ⟨hy, hyk⟩ := Od.look_some e2
            have := h y hy
            unfold unfitC at this
            have hyk' : pkey y.p = keyC p := hyk
            rw [atL_look ha (hb.len y hy) (hb.ok y hy), hyk', e1] at this
            simpa [fitC] using this
  unfold thenL rthenL
  rw [hfit]
  cases hany : b.any (unfitC a) with
  | true => rfl
  | false =>
    simp only [Bool.not_false, if_true, Bool.false_eq_true, if_false]
    congr 1
    have hcomb := Od.asc_filterMap (key' := Ch.key) (f := combC) s1 (fun p hp y hy => by
      have e3 := Od.look_mem s1 hp
      rw [s2] at e3
      split at e3
      · cases e3
      · injection e3 with e3
        obtain ⟨p1, p2⟩ := p
        cases p1 with
        | none => cases p2 with
          | none => cases hy
          | some z => unfold combC at hy; injection hy with hy; subst hy; rfl
        | some x => cases p2 with
          | none => unfold combC at hy; injection hy with hy; subst hy; rfl
          | some z =>
            unfold combC at hy
            simp only at hy
            split at hy
            · injection hy with hy; subst hy; rfl
            · cases hy)
    obtain ⟨b1, b2⟩ := beforeL_spec ha
    obtain ⟨w1, w2⟩ := wasL_spec ha hb _ b1
    obtain ⟨d1, d2⟩ := doL_spec ha _ w1
    obtain ⟨f1, f2⟩ := doL_spec hb _ d1
    obtain ⟨c1, c2⟩ := changesL_spec w1 f1
    obtain ⟨p1, p2⟩ := pointsL_spec f1 _ w1
    refine Od.ext hcomb.1 c1 fun n => ?_
    have h1 := hcomb.2 n
    unfold pairs
    rw [h1, c2, s2]
    have q1 := p2 n
    rw [w2] at q1
    rw [f2, d2, w2, b2] at q1
    have key : ∀ e : En, e.p.length = k → (∀ x ∈ e.p, x < 2 ^ 64) → e.key = n → changeL (wasL a (beforeL a) b) (doL (doL (wasL a (beforeL a) b) a) b) e.p = combC (Od.look Ch.key a n, Od.look Ch.key b n) := by
      intro e hel heo hek
      have hek' : pkey e.p = n := hek
      unfold changeL getE
      rw [hek', f2, d2, w2, b2]
      cases ea : Od.look Ch.key a n with
      | none =>
        cases eb : Od.look Ch.key b n with
        | none => rfl
        | some y =>
          obtain ⟨hy, hyk⟩ := Od.look_some eb
          have hpe : e.p = y.p := key_inj' (by rw [hel, hb.len y hy]) heo (hb.ok y hy) (by rw [hek']; exact hyk.symm)
          simp only [Option.bind_none]
          rw [map_valO, map_valO]
          exact chg_one _ _ (hb.right y hy) hpe
      | some x =>
        obtain ⟨hx, hxk⟩ := Od.look_some ea
        have hpe : e.p = x.p := key_inj' (by rw [hel, ha.len x hx]) heo (ha.ok x hx) (by rw [hek']; exact hxk.symm)
        cases eb : Od.look Ch.key b n with
        | none =>
          simp only [Option.bind_some]
          rw [map_valO, map_valO]
          exact chg_one _ _ (ha.right x hx) hpe
        | some y =>
          obtain ⟨hy, hyk⟩ := Od.look_some eb
          obtain ⟨r1, r2, r3, r4⟩ := right_parts (ha.right x hx)
          obtain ⟨t1, t2, t3, t4⟩ := right_parts (hb.right y hy)
          simp only [Option.bind_some]
          rw [map_valO, map_valO, chg_join _ _ _ _ _ r2 t3]
          unfold combC joinC
          rw [hpe]
    cases hp : Od.look En.key (pointsL (wasL a (beforeL a) b) (doL (doL (wasL a (beforeL a) b) a) b)) n with
    | some e =>
      obtain ⟨he, hek⟩ := Od.look_some hp
      rw [Option.bind_some, key e (p1.len e he) (p1.ok e he) hek]
      cases ea : Od.look Ch.key a n <;> cases eb : Od.look Ch.key b n <;> simp [combC]
    | none =>
      rw [hp] at q1
      rw [Option.bind_none]
      cases ea : Od.look Ch.key a n with
      | none =>
        cases eb : Od.look Ch.key b n with
        | none => simp
        | some y =>
          obtain ⟨hy, hyk⟩ := Od.look_some eb
          obtain ⟨r1, r2, r3, r4⟩ := right_parts (hb.right y hy)
          rw [ea, eb] at q1
          cases y with
          | mk p had has old new => cases had <;> cases has <;> simp_all
      | some x =>
        obtain ⟨hx, hxk⟩ := Od.look_some ea
        obtain ⟨r1, r2, r3, r4⟩ := right_parts (ha.right x hx)
        cases eb : Od.look Ch.key b n with
        | none =>
          rw [ea, eb] at q1
          cases x with
          | mk p had has old new => cases had <;> cases has <;> simp_all
        | some y =>
          obtain ⟨hy, hyk⟩ := Od.look_some eb
          obtain ⟨t1, t2, t3, t4⟩ := right_parts (hb.right y hy)
          rw [ea, eb] at q1
          have e1 : x.had = false := by
            cases e : x.had with
            | false => rfl
            | true => simp [e] at q1
          have e2 : y.has = false := by
            cases e : y.has with
            | false => rfl
            | true => simp [e] at q1
          have hc : (joinC x y).right = false := by unfold joinC Ch.right rightBits; simp [e1, e2]
          simp [combC, hc]

theorem apart_law {k : Nat} {a b : List Ch} (ha : Rt k a) (hb : Rt k b) : apartL a b = rapartL a b := by
  obtain ⟨s1, s2, s3⟩ := pairsL_spec (a.length + b.length) a b (Nat.le_refl _) ha.asc hb.asc
  unfold apartL rapartL
  apply bool_ext
  simp only [List.all_eq_true, Option.isNone_iff_eq_none]
  constructor
  · intro h c hc
    rw [atL_look hb (ha.len c hc) (ha.ok c hc)]
    cases e : Od.look Ch.key b (pkey c.p) with
    | none => rfl
    | some y =>
      have e2 : Od.look Ch.key a (pkey c.p) = some c := Od.look_mem ha.asc hc
      have e3 := s2 (pkey c.p)
      rw [e, e2] at e3
      simp only [reduceCtorEq, and_self, if_false] at e3
      have := h _ (Od.look_some e3).1
      simp [apartC] at this
  · intro h p hp
    have e3 := Od.look_mem s1 hp
    rw [s2] at e3
    split at e3
    · cases e3
    · injection e3 with e3
      rw [← e3]
      cases e1 : Od.look Ch.key a (keyC p) with
      | none => rfl
      | some x =>
        cases e2 : Od.look Ch.key b (keyC p) with
        | none => rfl
        | some y =>
          obtain ⟨hx, hxk⟩ := Od.look_some e1
          have := h x hx
          have hxk' : pkey x.p = keyC p := hxk
          rw [atL_look hb (ha.len x hx) (ha.ok x hx), hxk', e2] at this
          cases this

/-- who are apart may be turned about -/
theorem turn_law {k : Nat} {a b : List Ch} (ha : Rt k a) (hb : Rt k b) (h : apartL a b = true) : ∃ o, thenL a b = some o ∧ thenL b a = some o := by
  obtain ⟨s1, s2, s3⟩ := pairsL_spec (a.length + b.length) a b (Nat.le_refl _) ha.asc hb.asc
  obtain ⟨t1, t2, t3⟩ := pairsL_spec (b.length + a.length) b a (Nat.le_refl _) hb.asc ha.asc
  have none_both : ∀ n x y, Od.look Ch.key a n = some x → Od.look Ch.key b n = some y → False := by
    intro n x y e1 e2
    have e3 := s2 n
    rw [e1, e2] at e3
    simp only [reduceCtorEq, and_self, if_false] at e3
    have := List.all_eq_true.1 h _ (Od.look_some e3).1
    simp [apartC] at this
  have f1 : (pairs a b).all fitC = true := by
    rw [List.all_eq_true]
    intro p hp
    have e3 := Od.look_mem s1 hp
    rw [s2] at e3
    split at e3
    · cases e3
    · injection e3 with e3
      rw [← e3]
      cases e1 : Od.look Ch.key a (keyC p) with
      | none => rfl
      | some x =>
        cases e2 : Od.look Ch.key b (keyC p) with
        | none => rfl
        | some y => exact (none_both _ _ _ e1 e2).elim
  have f2 : (pairs b a).all fitC = true := by
    rw [List.all_eq_true]
    intro p hp
    have e3 := Od.look_mem t1 hp
    rw [t2] at e3
    split at e3
    · cases e3
    · injection e3 with e3
      rw [← e3]
      cases e1 : Od.look Ch.key b (keyC p) with
      | none => rfl
      | some x =>
        cases e2 : Od.look Ch.key a (keyC p) with
        | none => rfl
        | some y => exact (none_both _ _ _ e2 e1).elim
  have comb_key : ∀ p y, p ≠ (none, none) → combC p = some y → y.key = keyC p := by
    rintro ⟨p1, p2⟩ y hn hy
    cases p1 with
    | none => cases p2 with
      | none => exact absurd rfl hn
      | some z => unfold combC at hy; injection hy with hy; subst hy; rfl
    | some x => cases p2 with
      | none => unfold combC at hy; injection hy with hy; subst hy; rfl
      | some z =>
        unfold combC at hy
        simp only at hy
        split at hy
        · injection hy with hy; subst hy; rfl
        · cases hy
  have nn : ∀ {a b : List Ch} {l : List (Option Ch × Option Ch)}, Od.Asc keyC l → (∀ m, Od.look keyC l m = if Od.look Ch.key a m = none ∧ Od.look Ch.key b m = none then none else some (Od.look Ch.key a m, Od.look Ch.key b m)) → ∀ p ∈ l, p ≠ (none, none) := by
    intro a b l h1 h2 p hp
    have e3 := Od.look_mem h1 hp
    rw [h2] at e3
    split at e3
    · cases e3
    · rename_i hh
      injection e3 with e3
      intro e
      rw [e] at e3
      have e4 := congrArg Prod.fst e3
      have e5 := congrArg Prod.snd e3
      rw [e] at hh
      exact hh ⟨e4, e5⟩
  have c1 := Od.asc_filterMap (key' := Ch.key) (f := combC) s1 (fun p hp y hy => comb_key p y (nn s1 s2 p hp) hy)
  have c2 := Od.asc_filterMap (key' := Ch.key) (f := combC) t1 (fun p hp y hy => comb_key p y (nn t1 t2 p hp) hy)
  refine ⟨(pairs a b).filterMap combC, by unfold thenL; rw [if_pos f1], ?_⟩
  unfold thenL
  rw [if_pos f2]
  congr 1
  refine Od.ext c2.1 c1.1 fun n => ?_
  have h1 := c1.2 n
  have h2 := c2.2 n
  unfold pairs
  rw [h1, h2, s2, t2]
  cases ea : Od.look Ch.key a n with
  | none => cases eb : Od.look Ch.key b n <;> simp [combC]
  | some x => cases eb : Od.look Ch.key b n with
    | none => simp [combC]
    | some y => exact (none_both _ _ _ ea eb).elim

/-- what comes of right lists is right -/
theorem then_right {k : Nat} {a b o : List Ch} (ha : Rt k a) (hb : Rt k b) (h : thenL a b = some o) : Rt k o := by
  obtain ⟨s1, s2, s3⟩ := pairsL_spec (a.length + b.length) a b (Nat.le_refl _) ha.asc hb.asc
  unfold thenL at h
  split at h
  · injection h with h
    subst h
    have each : ∀ c ∈ (pairs a b).filterMap combC, (∃ x ∈ a ++ b, c.p = x.p) ∧ c.right = true := by
      intro c hc
      obtain ⟨p, hp, e⟩ := List.mem_filterMap.1 hc
      have e3 := Od.look_mem s1 hp
      rw [s2] at e3
      split at e3
      · cases e3
      · injection e3 with e3
        cases e1 : Od.look Ch.key a (keyC p) with
        | none =>
          cases e2 : Od.look Ch.key b (keyC p) with
          | none => rw [e1, e2] at e3; rw [← e3] at e; cases e
          | some y =>
            rw [e1, e2] at e3; rw [← e3] at e
            unfold combC at e; injection e with e; subst e
            have hy := (Od.look_some e2).1
            exact ⟨⟨y, List.mem_append_right _ hy, rfl⟩, hb.right y hy⟩
        | some x =>
          have hx := (Od.look_some e1).1
          cases e2 : Od.look Ch.key b (keyC p) with
          | none =>
            rw [e1, e2] at e3; rw [← e3] at e
            unfold combC at e; injection e with e; subst e
            exact ⟨⟨x, List.mem_append_left _ hx, rfl⟩, ha.right x hx⟩
          | some y =>
            rw [e1, e2] at e3; rw [← e3] at e
            unfold combC at e
            simp only at e
            split at e
            · injection e with e; subst e
              exact ⟨⟨x, List.mem_append_left _ hx, rfl⟩, by assumption⟩
            · cases e
    have comb_key : ∀ p ∈ pairs a b, ∀ y, combC p = some y → y.key = keyC p := by
      rintro ⟨p1, p2⟩ hp y hy
      cases p1 with
      | none => cases p2 with
        | none => cases hy
        | some z => unfold combC at hy; injection hy with hy; subst hy; rfl
      | some x => cases p2 with
        | none => unfold combC at hy; injection hy with hy; subst hy; rfl
        | some z =>
          unfold combC at hy
          simp only at hy
          split at hy
          · injection hy with hy; subst hy; rfl
          · cases hy
    refine ⟨fun c hc => ?_, fun c hc => (each c hc).2, (Od.asc_filterMap (key' := Ch.key) (f := combC) s1 comb_key).1, fun c hc => ?_⟩
    · obtain ⟨⟨x, hx, e⟩, _⟩ := each c hc
      rw [e]
      rcases List.mem_append.1 hx with hx | hx
      · exact ha.len x hx
      · exact hb.len x hx
    · obtain ⟨⟨x, hx, e⟩, _⟩ := each c hc
      rw [e]
      rcases List.mem_append.1 hx with hx | hx
      · exact ha.ok x hx
      · exact hb.ok x hx
  · cases h
theorem pairsL_length (n : Nat) (a b : List Ch) : (pairsL n a b).length ≤ n := by
  induction n generalizing a b with
  | zero => simp [pairsL]
  | succ n ih =>
    cases a <;> cases b <;> unfold pairsL <;> (try split) <;> (try split) <;> simp [ih]
theorem then_length {a b o : List Ch} (h : thenL a b = some o) : o.length ≤ a.length + b.length := by
  unfold thenL at h
  split at h
  · injection h with h; subst h
    exact Nat.le_trans (List.length_filterMap_le _ _) (pairsL_length _ _ _)
  · cases h
end Go.Proofs.Ytlmgabhdeeehmaa
