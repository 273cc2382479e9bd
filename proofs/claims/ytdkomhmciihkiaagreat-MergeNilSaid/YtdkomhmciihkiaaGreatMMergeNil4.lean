/-
  Texts that the proof of MergeNil leans on, part 4: contracts of functions, and plain laws.
-/
import Derived.Test.YtdkomhmciihkiaaGreatMMergeNil3
import Derived.OwnWalk
import Derived.LaidEqlPtr
/-! MrgP -/
set_option linter.unusedVariables false
set_option linter.unusedSimpArgs false
namespace Go.Proofs.YtdkomhmciihkiaaGreat

/-- a clash -/
structure Clh where
  p : List Nat
  inO : Bool
  inA : Bool
  inB : Bool
  o : Nat
  a : Nat
  b : Nat
def Clh.key (c : Clh) : Nat := pkey c.p
def clhOf (p : List Nat) (O A B : Option Nat) : Clh := ⟨p, O.isSome, A.isSome, B.isSome, O.getD 0, A.getD 0, B.getD 0⟩
/-- what becomes of a point; the clash, if it is one -/
def mrgV (g : Clh → Option Nat) (p : List Nat) (O A B : Option Nat) : Option Nat := if A = B then A else if A = O then B else if B = O then A else g (clhOf p O A B)
def clsV (p : List Nat) (O A B : Option Nat) : Option Clh := if A = B then none else if A = O then none else if B = O then none else some (clhOf p O A B)
def ptsL (o a b : List En) : List En := pointsL (pointsL o a) b
def mrgL (g : Clh → Option Nat) (o a b : List En) : List En := (ptsL o a b).filterMap fun e => (mrgV g e.p (getE o e.p) (getE a e.p) (getE b e.p)).map (fun v => ⟨e.p, v⟩)
def clsL (o a b : List En) : List Clh := (ptsL o a b).filterMap fun e => clsV e.p (getE o e.p) (getE a e.p) (getE b e.p)

theorem getE_mem {k : Nat} {l : List En} (h : Et k l) {p : List Nat} {x : Nat} (hp : p.length = k) (ho : ∀ c ∈ p, c < 2 ^ 64) : getE l p = some x ↔ (⟨p, x⟩ : En) ∈ l := by
  unfold getE
  constructor
  · intro h1
    rw [Option.map_eq_some_iff] at h1
    obtain ⟨e, h1, rfl⟩ := h1
    obtain ⟨h2, h3⟩ := Od.look_some h1
    have := key_pt h hp ho h2 h3
    subst this
    exact h2
  · intro h1
    have h2 : Od.look En.key l (pkey p) = some ⟨p, x⟩ := Od.look_mem (key := En.key) h.asc h1
    rw [h2]; rfl
theorem Et.ext_get {k : Nat} {l m : List En} (hl : Et k l) (hm : Et k m) (h : ∀ p, p.length = k → (∀ c ∈ p, c < 2 ^ 64) → getE l p = getE m p) : l = m := by
  refine hl.ext hm fun e => ⟨fun he => ?_, fun he => ?_⟩
  · exact (getE_mem hm (hl.len e he) (hl.ok e he)).1 ((h e.p (hl.len e he) (hl.ok e he)) ▸ (getE_mem hl (hl.len e he) (hl.ok e he)).2 he)
  · exact (getE_mem hl (hm.len e he) (hm.ok e he)).1 ((h e.p (hm.len e he) (hm.ok e he)).symm ▸ (getE_mem hm (hm.len e he) (hm.ok e he)).2 he)
theorem getE_isSome (l : List En) (p : List Nat) : (getE l p).isSome = (Od.look En.key l (pkey p)).isSome := by unfold getE; rw [Option.isSome_map]
theorem pts_spec {k : Nat} {o a b : List En} (ho : Et k o) (ha : Et k a) (hb : Et k b) :
    Et k (ptsL o a b) ∧ ∀ p, ((Od.look En.key (ptsL o a b) (pkey p)).isSome = ((getE o p).isSome || (getE a p).isSome || (getE b p).isSome)) := by
  obtain ⟨h1, h2⟩ := pointsL_spec ha o ho
  obtain ⟨h3, h4⟩ := pointsL_spec hb _ h1
  refine ⟨h3, fun p => ?_⟩
  unfold ptsL
  rw [h4, h2, getE_isSome, getE_isSome, getE_isSome]
theorem mrgV_none (g : Clh → Option Nat) (p : List Nat) : mrgV g p none none none = none := by unfold mrgV; rw [if_pos rfl]
theorem clsV_none (p : List Nat) : clsV p none none none = none := by unfold clsV; rw [if_pos rfl]
theorem clsV_p {p : List Nat} {O A B : Option Nat} {c : Clh} (h : clsV p O A B = some c) : c.p = p := by
  unfold clsV at h
  split at h; · cases h
  split at h; · cases h
  split at h; · cases h
  injection h with h
  subst h; rfl
theorem pts_at {k : Nat} {o a b : List En} (ho : Et k o) (ha : Et k a) (hb : Et k b) {β : Type} (f : List Nat → Option β) (p : List Nat) (hp : p.length = k) (hok : ∀ c ∈ p, c < 2 ^ 64) (hf : getE o p = none → getE a p = none → getE b p = none → f p = none) :
    (Od.look En.key (ptsL o a b) (pkey p)).bind (fun e => f e.p) = f p := by
  obtain ⟨h1, h2⟩ := pts_spec ho ha hb
  cases h : Od.look En.key (ptsL o a b) (pkey p) with
  | none =>
    have := h2 p
    rw [h] at this
    have h3 := this.symm
    rw [Option.isSome_none, Bool.or_eq_false_iff, Bool.or_eq_false_iff] at h3
    rw [hf (Option.isSome_eq_false_iff.1 h3.1.1 |> Option.isNone_iff_eq_none.1) (Option.isSome_eq_false_iff.1 h3.1.2 |> Option.isNone_iff_eq_none.1) (Option.isSome_eq_false_iff.1 h3.2 |> Option.isNone_iff_eq_none.1)]
    rfl
  | some e =>
    obtain ⟨h3, h4⟩ := Od.look_some h
    have := key_pt h1 hp hok h3 h4
    show f e.p = f p
    rw [this]
theorem mrg_spec (g : Clh → Option Nat) {k : Nat} {o a b : List En} (ho : Et k o) (ha : Et k a) (hb : Et k b) :
    Et k (mrgL g o a b) ∧ ∀ p, p.length = k → (∀ c ∈ p, c < 2 ^ 64) → getE (mrgL g o a b) p = mrgV g p (getE o p) (getE a p) (getE b p) := by
  obtain ⟨h1, _⟩ := pts_spec ho ha hb
  have h2 := Od.asc_filterMap (key := En.key) (key' := En.key) (f := fun e : En => (mrgV g e.p (getE o e.p) (getE a e.p) (getE b e.p)).map (fun v => (⟨e.p, v⟩ : En))) h1.asc (fun x _ y hy => by
    rw [Option.map_eq_some_iff] at hy
    obtain ⟨v, _, rfl⟩ := hy
    rfl)
  have hmem : ∀ e ∈ mrgL g o a b, ∃ x ∈ ptsL o a b, e.p = x.p := fun e he => by
    unfold mrgL at he
    rw [List.mem_filterMap] at he
    obtain ⟨x, hx, hy⟩ := he
    rw [Option.map_eq_some_iff] at hy
    obtain ⟨v, _, rfl⟩ := hy
    exact ⟨x, hx, rfl⟩
  refine ⟨⟨h2.1, fun e he => ?_, fun e he => ?_⟩, fun p hp hok => ?_⟩
  · obtain ⟨x, hx, e1⟩ := hmem e he; rw [e1]; exact h1.len x hx
  · obtain ⟨x, hx, e1⟩ := hmem e he; rw [e1]; exact h1.ok x hx
  · unfold getE
    unfold mrgL
    rw [h2.2]
    have := pts_at ho ha hb (fun p => (mrgV g p (getE o p) (getE a p) (getE b p)).map (fun v => (⟨p, v⟩ : En))) p hp hok (fun e1 e2 e3 => by rw [e1, e2, e3, mrgV_none]; rfl)
    rw [this, Option.map_map]
    show Option.map (fun v => v) _ = _
    rw [Option.map_id']
    rfl
structure Ct (k : Nat) (l : List Clh) : Prop where
  asc : Od.Asc Clh.key l
  len : ∀ e ∈ l, e.p.length = k
  ok : ∀ e ∈ l, ∀ x ∈ e.p, x < 2 ^ 64
def getC (l : List Clh) (p : List Nat) : Option Clh := Od.look Clh.key l (pkey p)
theorem Ct.ext {k : Nat} {l m : List Clh} (hl : Ct k l) (hm : Ct k m) (h : ∀ p, p.length = k → (∀ c ∈ p, c < 2 ^ 64) → getC l p = getC m p) : l = m := by
  refine Od.ext (key := Clh.key) hl.asc hm.asc fun n => ?_
  cases h1 : Od.look Clh.key l n with
  | some x =>
    obtain ⟨h2, h3⟩ := Od.look_some h1
    have := h x.p (hl.len x h2) (hl.ok x h2)
    unfold getC at this
    rw [show pkey x.p = n from h3, h1] at this
    exact this
  | none =>
    cases h4 : Od.look Clh.key m n with
    | none => rfl
    | some y =>
      obtain ⟨h2, h3⟩ := Od.look_some h4
      have := h y.p (hm.len y h2) (hm.ok y h2)
      unfold getC at this
      rw [show pkey y.p = n from h3, h1, h4] at this
      cases this
theorem cls_spec {k : Nat} {o a b : List En} (ho : Et k o) (ha : Et k a) (hb : Et k b) :
    Ct k (clsL o a b) ∧ ∀ p, p.length = k → (∀ c ∈ p, c < 2 ^ 64) → getC (clsL o a b) p = clsV p (getE o p) (getE a p) (getE b p) := by
  obtain ⟨h1, _⟩ := pts_spec ho ha hb
  have h2 := Od.asc_filterMap (key := En.key) (key' := Clh.key) (f := fun e : En => clsV e.p (getE o e.p) (getE a e.p) (getE b e.p)) h1.asc (fun x _ y hy => by
    unfold Clh.key; rw [clsV_p hy]; rfl)
  have hmem : ∀ e ∈ clsL o a b, ∃ x ∈ ptsL o a b, e.p = x.p := fun e he => by
    unfold clsL at he
    rw [List.mem_filterMap] at he
    obtain ⟨x, hx, hy⟩ := he
    exact ⟨x, hx, clsV_p hy⟩
  refine ⟨⟨h2.1, fun e he => ?_, fun e he => ?_⟩, fun p hp hok => ?_⟩
  · obtain ⟨x, hx, e1⟩ := hmem e he; rw [e1]; exact h1.len x hx
  · obtain ⟨x, hx, e1⟩ := hmem e he; rw [e1]; exact h1.ok x hx
  · unfold getC
    unfold clsL
    rw [h2.2]
    exact pts_at ho ha hb (fun p => clsV p (getE o p) (getE a p) (getE b p)) p hp hok (fun e1 e2 e3 => by rw [e1, e2, e3, clsV_none])

theorem mrgV_ab (g : Clh → Option Nat) (p : List Nat) (O A : Option Nat) : mrgV g p O A A = A := by unfold mrgV; rw [if_pos rfl]
theorem mrgV_bo (g : Clh → Option Nat) (p : List Nat) (O A : Option Nat) : mrgV g p O A O = A := by unfold mrgV; by_cases h : A = O <;> simp [h]
theorem mrgV_ao (g : Clh → Option Nat) (p : List Nat) (O B : Option Nat) : mrgV g p O O B = B := by unfold mrgV; by_cases h : O = B <;> simp [h]
theorem clsV_ab (p : List Nat) (O A : Option Nat) : clsV p O A A = none := by unfold clsV; rw [if_pos rfl]
theorem clsV_bo (p : List Nat) (O A : Option Nat) : clsV p O A O = none := by unfold clsV; by_cases h : A = O <;> simp [h]
theorem clsV_ao (p : List Nat) (O B : Option Nat) : clsV p O O B = none := by unfold clsV; by_cases h : O = B <;> simp [h]
theorem Ct.nil (k : Nat) : Ct k [] := ⟨List.Pairwise.nil, (fun e h => absurd h List.not_mem_nil), (fun e h => absurd h List.not_mem_nil)⟩
theorem mrg_ab (g : Clh → Option Nat) {k : Nat} {o a : List En} (ho : Et k o) (ha : Et k a) : mrgL g o a a = a := (mrg_spec g ho ha ha).1.ext_get ha fun p hp hok => by rw [(mrg_spec g ho ha ha).2 p hp hok, mrgV_ab]
theorem mrg_bo (g : Clh → Option Nat) {k : Nat} {o a : List En} (ho : Et k o) (ha : Et k a) : mrgL g o a o = a := (mrg_spec g ho ha ho).1.ext_get ha fun p hp hok => by rw [(mrg_spec g ho ha ho).2 p hp hok, mrgV_bo]
theorem mrg_ao (g : Clh → Option Nat) {k : Nat} {o b : List En} (ho : Et k o) (hb : Et k b) : mrgL g o o b = b := (mrg_spec g ho ho hb).1.ext_get hb fun p hp hok => by rw [(mrg_spec g ho ho hb).2 p hp hok, mrgV_ao]
theorem cls_ab {k : Nat} {o a : List En} (ho : Et k o) (ha : Et k a) : clsL o a a = [] := (cls_spec ho ha ha).1.ext (Ct.nil k) fun p hp hok => by rw [(cls_spec ho ha ha).2 p hp hok, clsV_ab]; rfl
theorem cls_bo {k : Nat} {o a : List En} (ho : Et k o) (ha : Et k a) : clsL o a o = [] := (cls_spec ho ha ho).1.ext (Ct.nil k) fun p hp hok => by rw [(cls_spec ho ha ho).2 p hp hok, clsV_bo]; rfl
theorem cls_ao {k : Nat} {o b : List En} (ho : Et k o) (hb : Et k b) : clsL o o b = [] := (cls_spec ho ho hb).1.ext (Ct.nil k) fun p hp hok => by rw [(cls_spec ho ho hb).2 p hp hok, clsV_ao]; rfl

def filE (φ : List Nat → Bool) (l : List En) : List En := l.filter fun e => φ e.p
def filC (φ : List Nat → Bool) (l : List Clh) : List Clh := l.filter fun e => φ e.p
theorem Et.fil {k : Nat} {l : List En} (h : Et k l) (φ : List Nat → Bool) : Et k (filE φ l) := ⟨h.asc.filter _, fun e he => h.len e (List.mem_filter.1 he).1, fun e he => h.ok e (List.mem_filter.1 he).1⟩
theorem Ct.fil {k : Nat} {l : List Clh} (h : Ct k l) (φ : List Nat → Bool) : Ct k (filC φ l) := ⟨h.asc.filter _, fun e he => h.len e (List.mem_filter.1 he).1, fun e he => h.ok e (List.mem_filter.1 he).1⟩
theorem getE_fil {k : Nat} {l : List En} (h : Et k l) (φ : List Nat → Bool) {p : List Nat} (hp : p.length = k) (hok : ∀ c ∈ p, c < 2 ^ 64) : getE (filE φ l) p = if φ p then getE l p else none := by
  cases hx : getE (filE φ l) p with
  | some x =>
    have h1 := (getE_mem (h.fil φ) hp hok).1 hx
    obtain ⟨h2, h3⟩ := List.mem_filter.1 h1
    rw [if_pos h3, (getE_mem h hp hok).2 h2]
  | none =>
    by_cases hφ : φ p = true
    · rw [if_pos hφ]
      cases hy : getE l p with
      | none => rfl
      | some y =>
        have h1 := (getE_mem h hp hok).1 hy
        have h2 := (getE_mem (h.fil φ) hp hok).2 (List.mem_filter.2 ⟨h1, hφ⟩)
        rw [hx] at h2; cases h2
    · rw [if_neg hφ]
theorem getC_mem {k : Nat} {l : List Clh} (h : Ct k l) {p : List Nat} (hp : p.length = k) (hok : ∀ c ∈ p, c < 2 ^ 64) (x : Clh) : getC l p = some x ↔ x ∈ l ∧ x.p = p := by
  unfold getC
  constructor
  · intro h1
    obtain ⟨h2, h3⟩ := Od.look_some h1
    exact ⟨h2, key_inj' (by rw [h.len x h2, hp]) (h.ok x h2) hok h3⟩
  · rintro ⟨h1, rfl⟩
    exact Od.look_mem (key := Clh.key) h.asc h1
theorem getC_fil {k : Nat} {l : List Clh} (h : Ct k l) (φ : List Nat → Bool) {p : List Nat} (hp : p.length = k) (hok : ∀ c ∈ p, c < 2 ^ 64) : getC (filC φ l) p = if φ p then getC l p else none := by
  cases hx : getC (filC φ l) p with
  | some x =>
    have h1 := (getC_mem (h.fil φ) hp hok x).1 hx
    obtain ⟨h2, h3⟩ := List.mem_filter.1 h1.1
    rw [if_pos (by rw [← h1.2]; exact h3), (getC_mem h hp hok x).2 ⟨h2, h1.2⟩]
  | none =>
    by_cases hφ : φ p = true
    · rw [if_pos hφ]
      cases hy : getC l p with
      | none => rfl
      | some y =>
        have h1 := (getC_mem h hp hok y).1 hy
        have h2 := (getC_mem (h.fil φ) hp hok y).2 ⟨List.mem_filter.2 ⟨h1.1, by rw [h1.2]; exact hφ⟩, h1.2⟩
        rw [hx] at h2; cases h2
    · rw [if_neg hφ]
theorem mrg_fil (g : Clh → Option Nat) {k : Nat} {o a b : List En} (ho : Et k o) (ha : Et k a) (hb : Et k b) (φ : List Nat → Bool) : mrgL g (filE φ o) (filE φ a) (filE φ b) = filE φ (mrgL g o a b) := by
  have h1 := mrg_spec g ho ha hb
  have h2 := mrg_spec g (ho.fil φ) (ha.fil φ) (hb.fil φ)
  refine h2.1.ext_get (h1.1.fil φ) fun p hp hok => ?_
  rw [h2.2 p hp hok, getE_fil ho φ hp hok, getE_fil ha φ hp hok, getE_fil hb φ hp hok, getE_fil h1.1 φ hp hok, h1.2 p hp hok]
  split
  · rfl
  · exact mrgV_none g p
theorem cls_fil {k : Nat} {o a b : List En} (ho : Et k o) (ha : Et k a) (hb : Et k b) (φ : List Nat → Bool) : clsL (filE φ o) (filE φ a) (filE φ b) = filC φ (clsL o a b) := by
  have h1 := cls_spec ho ha hb
  have h2 := cls_spec (ho.fil φ) (ha.fil φ) (hb.fil φ)
  refine h2.1.ext (h1.1.fil φ) fun p hp hok => ?_
  rw [h2.2 p hp hok, getE_fil ho φ hp hok, getE_fil ha φ hp hok, getE_fil hb φ hp hok, getC_fil h1.1 φ hp hok, h1.2 p hp hok]
  split
  · rfl
  · exact clsV_none p
theorem mem_mrg {g : Clh → Option Nat} {k : Nat} {o a b : List En} (ho : Et k o) (ha : Et k a) (hb : Et k b) {e : En} (he : e ∈ mrgL g o a b) : ∃ f, (f ∈ o ∨ f ∈ a ∨ f ∈ b) ∧ f.p = e.p := by
  have h := mrg_spec g ho ha hb
  have hp := h.1.len e he
  have hok := h.1.ok e he
  have h1 := (getE_mem h.1 hp hok).2 he
  rw [h.2 _ hp hok] at h1
  cases h2 : getE o e.p with
  | some x => exact ⟨⟨e.p, x⟩, .inl ((getE_mem ho hp hok).1 h2), rfl⟩
  | none =>
    cases h3 : getE a e.p with
    | some x => exact ⟨⟨e.p, x⟩, .inr (.inl ((getE_mem ha hp hok).1 h3)), rfl⟩
    | none =>
      cases h4 : getE b e.p with
      | some x => exact ⟨⟨e.p, x⟩, .inr (.inr ((getE_mem hb hp hok).1 h4)), rfl⟩
      | none => rw [h2, h3, h4, mrgV_none] at h1; cases h1
theorem mem_cls {k : Nat} {o a b : List En} (ho : Et k o) (ha : Et k a) (hb : Et k b) {e : Clh} (he : e ∈ clsL o a b) : ∃ f, (f ∈ o ∨ f ∈ a ∨ f ∈ b) ∧ f.p = e.p := by
  have h := cls_spec ho ha hb
  have hp := h.1.len e he
  have hok := h.1.ok e he
  have h1 := (getC_mem h.1 hp hok e).2 ⟨he, rfl⟩
  rw [h.2 _ hp hok] at h1
  cases h2 : getE o e.p with
  | some x => exact ⟨⟨e.p, x⟩, .inl ((getE_mem ho hp hok).1 h2), rfl⟩
  | none =>
    cases h3 : getE a e.p with
    | some x => exact ⟨⟨e.p, x⟩, .inr (.inl ((getE_mem ha hp hok).1 h3)), rfl⟩
    | none =>
      cases h4 : getE b e.p with
      | some x => exact ⟨⟨e.p, x⟩, .inr (.inr ((getE_mem hb hp hok).1 h4)), rfl⟩
      | none => rw [h2, h3, h4, clsV_none] at h1; cases h1

def ltA (n x : Nat) (p : List Nat) : Bool := decide (Zb.addr p n < x)
def eqA (n x : Nat) (p : List Nat) : Bool := decide (Zb.addr p n = x)
theorem agree_of {k n : Nat} {pre p q : List Nat} (hp : p.length = k) (hq : q.length = k) (op : ∀ c ∈ p, c < 2 ^ 64) (oq : ∀ c ∈ q, c < 2 ^ 64) (h1 : Zb.cutN p (n + 1) = pre) (h2 : Zb.cutN q (n + 1) = pre) : Zb.agree p q (n + 1) :=
  (Zb.cut_agree (by rw [hp, hq]) op oq (n + 1)).1 (h1.trans h2.symm)
theorem fil_none {l : List En} {φ : List Nat → Bool} (h : ∀ e ∈ l, φ e.p = false) : filE φ l = [] := List.filter_eq_nil_iff.2 fun e he => by rw [h e he]; simp
theorem fil_all {l : List En} {φ : List Nat → Bool} (h : ∀ e ∈ l, φ e.p = true) : filE φ l = l := List.filter_eq_self.2 h
theorem fil_congr {l : List En} {φ ψ : List Nat → Bool} (h : ∀ e ∈ l, φ e.p = ψ e.p) : filE φ l = filE ψ l := List.filter_congr h
theorem filC_none {l : List Clh} {φ : List Nat → Bool} (h : ∀ e ∈ l, φ e.p = false) : filC φ l = [] := List.filter_eq_nil_iff.2 fun e he => by rw [h e he]; simp
theorem filC_all {l : List Clh} {φ : List Nat → Bool} (h : ∀ e ∈ l, φ e.p = true) : filC φ l = l := List.filter_eq_self.2 h
theorem filC_congr {l : List Clh} {φ ψ : List Nat → Bool} (h : ∀ e ∈ l, φ e.p = ψ e.p) : filC φ l = filC ψ l := List.filter_congr h
theorem split_lt {k n : Nat} {pre : List Nat} {l : List En} (h : Et k l) (hn : n < 64) (hp : ∀ e ∈ l, Zb.cutN e.p (n + 1) = pre) (x : Nat) : filE (ltA n (x + 1)) l = filE (ltA n x) l ++ filE (eqA n x) l := by
  refine (h.fil _).ext (m := filE (ltA n x) l ++ filE (eqA n x) l) ⟨?_, ?_, ?_⟩ fun e => ?_
  · refine List.pairwise_append.2 ⟨(h.fil _).asc, (h.fil _).asc, fun e he f hf => ?_⟩
    obtain ⟨h1, h2⟩ := List.mem_filter.1 he
    obtain ⟨h3, h4⟩ := List.mem_filter.1 hf
    simp only [ltA, eqA, decide_eq_true_eq] at h2 h4
    exact pkey_lt (by rw [h.len e h1, h.len f h3]) hn (agree_of (h.len e h1) (h.len f h3) (h.ok e h1) (h.ok f h3) (hp e h1) (hp f h3)) (by omega)
  · intro e he
    rcases List.mem_append.1 he with he | he
    · exact (h.fil _).len e he
    · exact (h.fil _).len e he
  · intro e he
    rcases List.mem_append.1 he with he | he
    · exact (h.fil _).ok e he
    · exact (h.fil _).ok e he
  · unfold filE
    rw [List.mem_append, List.mem_filter, List.mem_filter, List.mem_filter]
    simp only [ltA, eqA, decide_eq_true_eq]
    constructor
    · rintro ⟨h1, h2⟩
      rcases Nat.lt_or_ge (Zb.addr e.p n) x with h3 | h3
      · exact .inl ⟨h1, h3⟩
      · exact .inr ⟨h1, by omega⟩
    · rintro (⟨h1, h2⟩ | ⟨h1, h2⟩)
      · exact ⟨h1, by omega⟩
      · exact ⟨h1, by omega⟩
theorem Ct.ext_mem {k : Nat} {l m : List Clh} (hl : Ct k l) (hm : Ct k m) (h : ∀ e, e ∈ l ↔ e ∈ m) : l = m := Od.ext_mem (key := Clh.key) hl.asc hm.asc h
theorem splitC_lt {k n : Nat} {pre : List Nat} {l : List Clh} (h : Ct k l) (hn : n < 64) (hp : ∀ e ∈ l, Zb.cutN e.p (n + 1) = pre) (x : Nat) : filC (ltA n (x + 1)) l = filC (ltA n x) l ++ filC (eqA n x) l := by
  refine (h.fil _).ext_mem (m := filC (ltA n x) l ++ filC (eqA n x) l) ⟨?_, ?_, ?_⟩ fun e => ?_
  · refine List.pairwise_append.2 ⟨(h.fil _).asc, (h.fil _).asc, fun e he f hf => ?_⟩
    obtain ⟨h1, h2⟩ := List.mem_filter.1 he
    obtain ⟨h3, h4⟩ := List.mem_filter.1 hf
    simp only [ltA, eqA, decide_eq_true_eq] at h2 h4
    exact pkey_lt (by rw [h.len e h1, h.len f h3]) hn (agree_of (h.len e h1) (h.len f h3) (h.ok e h1) (h.ok f h3) (hp e h1) (hp f h3)) (by omega)
  · intro e he
    rcases List.mem_append.1 he with he | he
    · exact (h.fil _).len e he
    · exact (h.fil _).len e he
  · intro e he
    rcases List.mem_append.1 he with he | he
    · exact (h.fil _).ok e he
    · exact (h.fil _).ok e he
  · unfold filC
    rw [List.mem_append, List.mem_filter, List.mem_filter, List.mem_filter]
    simp only [ltA, eqA, decide_eq_true_eq]
    constructor
    · rintro ⟨h1, h2⟩
      rcases Nat.lt_or_ge (Zb.addr e.p n) x with h3 | h3
      · exact .inl ⟨h1, h3⟩
      · exact .inr ⟨h1, by omega⟩
    · rintro (⟨h1, h2⟩ | ⟨h1, h2⟩)
      · exact ⟨h1, by omega⟩
      · exact ⟨h1, by omega⟩
theorem Kd.kid_fil {k n : Nat} {pre : List Nat} {ks : List (Nat × List En)} (h : Kd k n pre ks) (a : Nat) : kidOf a ks = filE (eqA n a) (cat ks) :=
  (h.kid_et a).ext (h.cat_et.fil _) fun e => by
    unfold filE
    rw [h.mem_kid, List.mem_filter]
    simp only [eqA, decide_eq_true_eq]

/-- the list of a node at a level, or nothing at it: its kids' entries agree above -/
def AtLev (k n : Nat) (pre : List Nat) (l : List En) : Prop := Et k l ∧ ∀ e ∈ l, Zb.cutN e.p (n + 1) = pre
theorem AtLev.mrg {g : Clh → Option Nat} {k n : Nat} {pre : List Nat} {o a b : List En} (ho : AtLev k n pre o) (ha : AtLev k n pre a) (hb : AtLev k n pre b) : AtLev k n pre (mrgL g o a b) :=
  ⟨(mrg_spec g ho.1 ha.1 hb.1).1, fun e he => by
    obtain ⟨f, hf, e1⟩ := mem_mrg ho.1 ha.1 hb.1 he
    rw [← e1]
    rcases hf with hf | hf | hf
    · exact ho.2 f hf
    · exact ha.2 f hf
    · exact hb.2 f hf⟩
theorem AtLev.cls {k n : Nat} {pre : List Nat} {o a b : List En} (ho : AtLev k n pre o) (ha : AtLev k n pre a) (hb : AtLev k n pre b) : ∀ e ∈ clsL o a b, Zb.cutN e.p (n + 1) = pre := fun e he => by
    obtain ⟨f, hf, e1⟩ := mem_cls ho.1 ha.1 hb.1 he
    rw [← e1]
    rcases hf with hf | hf | hf
    · exact ho.2 f hf
    · exact ha.2 f hf
    · exact hb.2 f hf
theorem AtLev.fil {k n : Nat} {pre : List Nat} {l : List En} (h : AtLev k n pre l) (φ : List Nat → Bool) : AtLev k n pre (filE φ l) := ⟨h.1.fil φ, fun e he => h.2 e (List.mem_filter.1 he).1⟩
theorem AtLev.nil (k n : Nat) (pre : List Nat) : AtLev k n pre [] := ⟨Et.nil k, fun e h => by cases h⟩
/-- what stands below an address: nothing, one kid, or a node of that level -/
theorem lev_split {k n : Nat} {pre : List Nat} {l : List En} (h : AtLev k n pre l) (hn : n < 64) (hne : l ≠ []) :
    (lev l ≤ n ∧ ∃ a0, ∀ e ∈ l, Zb.addr e.p n = a0) ∨ (lev l = n + 1 ∧ ∃ ks, Kd k n pre ks ∧ cat ks = l) := by
  by_cases h2 : 2 ≤ l.length
  · obtain ⟨n', pre', ks, hk, e⟩ := kd_of h.1 h2
    have hlev : lev l = n' + 1 := by rw [← e]; exact hk.lev
    have hle : n' ≤ n := by
      rcases Nat.lt_or_ge n n' with hgt | hge
      · exfalso
        obtain ⟨x, hx, y, hy, hxy, h3, h4, _⟩ := hk.ends
        have m1 : (cat ks).head! ∈ l := by rw [← e]; exact head!_mem hk.cat_ne
        have m2 : (cat ks).getLast! ∈ l := by rw [← e]; exact getLast!_mem hk.cat_ne
        have a1 := agree_of (h.1.len _ m1) (h.1.len _ m2) (h.1.ok _ m1) (h.1.ok _ m2) (h.2 _ m1) (h.2 _ m2) n' (by omega) hk.n64
        rw [hk.adr x hx _ h3, hk.adr y hy _ h4] at a1
        omega
      · exact hge
    rcases Nat.lt_or_ge n' n with hlt | hge
    · left
      refine ⟨by omega, Zb.addr l.head!.p n, fun e' he' => ?_⟩
      have m1 := head!_mem hne
      have c1 := hk.cat_pre (e := e') (by rw [e]; exact he')
      have c2 := hk.cat_pre (e := l.head!) (by rw [e]; exact m1)
      exact agree_of (h.1.len _ he') (h.1.len _ m1) (h.1.ok _ he') (h.1.ok _ m1) c1 c2 n (by omega) hn
    · right
      obtain rfl : n' = n := by omega
      have m1 := head!_mem hne
      have : pre' = pre := by rw [← hk.cat_pre (e := l.head!) (by rw [e]; exact m1), h.2 _ m1]
      subst this
      exact ⟨hlev, ks, hk, e⟩
  · left
    obtain ⟨e, rfl⟩ : ∃ e, l = [e] := by
      cases l with
      | nil => exact absurd rfl hne
      | cons e t => cases t with
        | nil => exact ⟨e, rfl⟩
        | cons f t => simp at h2
    exact ⟨by rw [lev_one]; omega, Zb.addr e.p n, fun f hf => by rw [List.mem_singleton.1 hf]⟩
theorem Kd.snoc {k n x : Nat} {pre : List Nat} {ks : List (Nat × List En)} {m : List En} (h : Kd k n pre ks) (hm : AtLev k n pre m) (hne : m ≠ []) (ha : ∀ e ∈ m, Zb.addr e.p n = x) (hlt : ∀ y ∈ ks, y.1 < x) : Kd k n pre (ks ++ [(x, m)]) := by
  have := (h.set (a := x) hne hm.1 hm.2 ha).1
  rwa [ins_last (key := ka) (x := (x, m)) hlt] at this

theorem chg_pt {k : Nat} {a b : List En} (ha : Et k a) (hb : Et k b) {p : List Nat} (hp : p.length = k) (hok : ∀ c ∈ p, c < 2 ^ 64) : Od.look Ch.key (changesL a b) (pkey p) = changeOf p (getE a p) (getE b p) := by
  obtain ⟨h1, h2⟩ := pointsL_spec hb a ha
  rw [(changesL_spec ha hb).2]
  cases h : Od.look En.key (pointsL a b) (pkey p) with
  | none =>
    have := h2 (pkey p)
    rw [h, ← getE_isSome, ← getE_isSome] at this
    have h3 := this.symm
    rw [Option.isSome_none, Bool.or_eq_false_iff] at h3
    rw [Option.isNone_iff_eq_none.1 (Option.isSome_eq_false_iff.1 h3.1), Option.isNone_iff_eq_none.1 (Option.isSome_eq_false_iff.1 h3.2)]
    rfl
  | some e =>
    obtain ⟨h3, h4⟩ := Od.look_some h
    have := key_pt h1 hp hok h3 h4
    show changeL a b e.p = _
    rw [this]; rfl
theorem changeOf_none {p : List Nat} {A B : Option Nat} : changeOf p A B = none ↔ A = B := by
  unfold changeOf
  cases A <;> cases B <;> simp <;> omega
theorem changeOf_some {p : List Nat} {A B : Option Nat} (h : A ≠ B) : changeOf p A B = some ⟨p, A.isSome, B.isSome, A.getD 0, B.getD 0⟩ := by
  unfold changeOf
  cases A <;> cases B <;> simp <;> first | exact absurd rfl h | (intro e; exact h (by rw [Int.ofNat_inj.1 e])) | skip
def sameC (x y : Ch) : Bool := (x.has == y.has) && (x.new == y.new)
def clhC (x y : Ch) : Clh := ⟨x.p, x.had, x.has, y.has, x.old, x.new, y.new⟩
def nowV (g : Clh → Option Nat) (X : Option Ch) (c : Ch) : Option Nat := match X with
  | none => valO c.has c.new
  | some x => if sameC x c then valO x.has x.new else g (clhC x c)
def clhV (X : Option Ch) (c : Ch) : Option Clh := match X with
  | none => none
  | some x => if sameC x c then none else some (clhC x c)
def putV (p : List Nat) (v : Option Nat) (l : List En) : List En := match v with
  | some v => insE p v l
  | none => delE p l
def apL (g : Clh → Option Nat) (x : List Ch) : List En → List Ch → List En
  | out, [] => out
  | out, c :: y => apL g x (putV c.p (nowV g (Od.look Ch.key x c.key) c) out) y
def apC (x y : List Ch) : List Clh := y.filterMap fun c => clhV (Od.look Ch.key x c.key) c
theorem Et.putV {k : Nat} {l : List En} (h : Et k l) {p : List Nat} (v : Option Nat) (hp : p.length = k) (ho : ∀ c ∈ p, c < 2 ^ 64) : Et k (putV p v l) := by
  cases v with
  | none => exact h.del p
  | some v => exact h.ins v hp ho
theorem getE_put {k : Nat} {l : List En} (h : Et k l) {p q : List Nat} (v : Option Nat) (hp : p.length = k) (ho : ∀ c ∈ p, c < 2 ^ 64) (hq : q.length = k) (hqo : ∀ c ∈ q, c < 2 ^ 64) : getE (putV p v l) q = if pkey p = pkey q then v else getE l q := by
  unfold getE
  cases v with
  | none =>
    show Option.map _ (Od.look En.key (Od.del En.key (pkey p) l) (pkey q)) = _
    rw [(Od.asc_del (key := En.key) h.asc).2]
    split <;> rfl
  | some v =>
    show Option.map _ (Od.look En.key (Od.ins En.key ⟨p, v⟩ l) (pkey q)) = _
    rw [(Od.asc_ins (key := En.key) (x := ⟨p, v⟩) h.asc).2]
    show Option.map _ (if pkey p = pkey q then _ else _) = _
    split <;> rfl
theorem apL_spec {g : Clh → Option Nat} {k : Nat} (x : List Ch) : ∀ (y : List Ch) (out : List En), Rt k y → Et k out → Et k (apL g x out y) ∧ ∀ p, p.length = k → (∀ c ∈ p, c < 2 ^ 64) → getE (apL g x out y) p = match Od.look Ch.key y (pkey p) with | none => getE out p | some c => nowV g (Od.look Ch.key x (pkey p)) c
  | [], out, hy, ho => ⟨ho, fun p _ _ => rfl⟩
  | c :: y, out, hy, ho => by
    have hlen := hy.len c (List.mem_cons_self ..)
    have hok := hy.ok c (List.mem_cons_self ..)
    have hy' : Rt k y := ⟨fun d hd => hy.len d (List.mem_cons_of_mem _ hd), fun d hd => hy.right d (List.mem_cons_of_mem _ hd), hy.asc.tail, fun d hd => hy.ok d (List.mem_cons_of_mem _ hd)⟩
    have ho' := ho.putV (nowV g (Od.look Ch.key x c.key) c) hlen hok
    obtain ⟨h1, h2⟩ := apL_spec x y _ hy' ho'
    refine ⟨h1, fun p hp hpo => ?_⟩
    show getE (apL g x _ y) p = _
    rw [h2 p hp hpo, Od.look_cons]
    by_cases he : c.key = pkey p
    · rw [if_pos he, Od.look_eq_none (key := Ch.key) (l := y) (n := pkey p) (fun d hd => by have := hy.asc.head d hd; omega)]
      show getE (putV c.p _ out) p = _
      rw [getE_put ho _ hlen hok hp hpo, if_pos (show pkey c.p = pkey p from he), he]
    · rw [if_neg he]
      cases Od.look Ch.key y (pkey p) with
      | none =>
        show getE (putV c.p _ out) p = _
        rw [getE_put ho _ hlen hok hp hpo, if_neg (show ¬ pkey c.p = pkey p from he)]
      | some d => rfl
theorem valO_get (A : Option Nat) : valO A.isSome (A.getD 0) = A := by cases A <;> rfl
theorem sameC_iff {p : List Nat} {O A B : Option Nat} : sameC ⟨p, O.isSome, A.isSome, O.getD 0, A.getD 0⟩ ⟨p, O.isSome, B.isSome, O.getD 0, B.getD 0⟩ = true ↔ A = B := by
  unfold sameC
  cases A <;> cases B <;> simp
theorem chg_lo {k : Nat} {a b : List En} (ha : Et k a) (hb : Et k b) : (∀ c ∈ changesL a b, c.p.length = k ∧ ∀ x ∈ c.p, x < 2 ^ 64) := fun c hc => by
  unfold changesL at hc
  rw [List.mem_filterMap] at hc
  obtain ⟨e, he, h⟩ := hc
  obtain ⟨h1, _⟩ := pointsL_spec hb a ha
  have : c.p = e.p := by
    unfold changeL changeOf at h
    split at h
    · injection h with h; subst h; rfl
    · cases h
  rw [this]
  exact ⟨h1.len e he, h1.ok e he⟩
theorem apart_mrg (g : Clh → Option Nat) {k : Nat} {o a b : List En} (ho : Et k o) (ha : Et k a) (hb : Et k b) (rt : Rt k (changesL o b)) : apL g (changesL o a) a (changesL o b) = mrgL g o a b := by
  obtain ⟨h1, h2⟩ := apL_spec (g := g) (changesL o a) (changesL o b) a rt ha
  refine h1.ext_get (mrg_spec g ho ha hb).1 fun p hp hok => ?_
  rw [h2 p hp hok, (mrg_spec g ho ha hb).2 p hp hok, chg_pt ho hb hp hok, chg_pt ho ha hp hok]
  generalize getE o p = O
  generalize getE a p = A
  generalize getE b p = B
  by_cases e1 : O = B
  · subst e1
    rw [changeOf_none.2 rfl, mrgV_bo]
  · rw [changeOf_some e1]
    by_cases e2 : O = A
    · subst e2
      rw [changeOf_none.2 rfl, mrgV_ao]
      exact valO_get B
    · rw [changeOf_some e2]
      show (if _ then _ else _) = _
      unfold mrgV
      by_cases e3 : A = B
      · rw [if_pos (sameC_iff.2 e3), if_pos e3]; exact valO_get A
      · rw [if_neg (fun h => e3 (sameC_iff.1 h)), if_neg e3, if_neg (fun h => e2 h.symm), if_neg (fun h => e1 h.symm)]; rfl
theorem clhV_key {x : List Ch} {c : Ch} {z : Clh} (h : clhV (Od.look Ch.key x c.key) c = some z) : z.key = c.key := by
  unfold clhV at h
  cases h1 : Od.look Ch.key x c.key with
  | none => rw [h1] at h; cases h
  | some d =>
    rw [h1] at h
    obtain ⟨_, h3⟩ := Od.look_some h1
    simp only at h
    split at h
    · cases h
    · injection h with h; subst h; exact h3
theorem apart_cls {k : Nat} {o a b : List En} (ho : Et k o) (ha : Et k a) (hb : Et k b) : apC (changesL o a) (changesL o b) = clsL o a b := by
  have h1 := Od.asc_filterMap (key := Ch.key) (key' := Clh.key) (f := fun c : Ch => clhV (Od.look Ch.key (changesL o a) c.key) c) (changesL_spec ho hb).1 (fun x _ y hy => clhV_key hy)
  have hmem : ∀ z ∈ apC (changesL o a) (changesL o b), z.p.length = k ∧ ∀ x ∈ z.p, x < 2 ^ 64 := fun z hz => by
    unfold apC at hz
    rw [List.mem_filterMap] at hz
    obtain ⟨c, hc, h⟩ := hz
    unfold clhV at h
    cases h1 : Od.look Ch.key (changesL o a) c.key with
    | none => rw [h1] at h; cases h
    | some d =>
      rw [h1] at h
      simp only at h
      split at h
      · cases h
      · injection h with h; subst h; exact chg_lo ho ha d (Od.look_some h1).1
  have h2 := cls_spec ho ha hb
  refine Ct.ext (k := k) ⟨h1.1, fun z hz => (hmem z hz).1, fun z hz => (hmem z hz).2⟩ h2.1 fun p hp hok => ?_
  rw [h2.2 p hp hok]
  unfold getC apC
  rw [h1.2, chg_pt ho hb hp hok]
  have hc2 := chg_pt ho ha hp hok
  generalize getE o p = O at *
  generalize getE a p = A at *
  generalize getE b p = B at *
  by_cases e1 : O = B
  · subst e1
    rw [changeOf_none.2 rfl, clsV_bo]
    rfl
  · rw [changeOf_some e1]
    show clhV (Od.look Ch.key (changesL o a) (pkey p)) _ = _
    rw [hc2]
    by_cases e2 : O = A
    · subst e2
      rw [changeOf_none.2 rfl, clsV_ao]
      rfl
    · rw [changeOf_some e2]
      show (if _ then _ else _) = _
      unfold clsV
      by_cases e3 : A = B
      · rw [if_pos (sameC_iff.2 e3), if_pos e3]
      · rw [if_neg (fun h => e3 (sameC_iff.1 h)), if_neg e3, if_neg (fun h => e2 h.symm), if_neg (fun h => e1 h.symm)]; rfl
end Go.Proofs.YtdkomhmciihkiaaGreat
/-! NdK -/
namespace Go.Proofs.YtdkomhmciihkiaaGreat
open Go.RowKit
set_option linter.unusedVariables false
set_option linter.unusedSimpArgs false

/-- the types of the blocks that may change: clashes, the merger, three trees, a value -/
def MT (t : TypeId) : Bool := t == 149 || t == 248 || t == 344
structure Km (w w' : World) : Prop where
  size : w.heap.size ≤ w'.heap.size
  keep : ∀ (b : Nat) cur t fr, w.heap[b]? = some (Obj.cells cur t fr) → MT t = false → w'.heap[b]? = some (Obj.cells cur t fr)
theorem Km.refl (w : World) : Km w w := ⟨Nat.le_refl _, fun _ _ _ _ h _ => h⟩
theorem Km.trans {w w' w'' : World} (h : Km w w') (g : Km w' w'') : Km w w'' := ⟨Nat.le_trans h.size g.size, fun b cur t fr h1 h2 => g.keep b cur t fr (h.keep b cur t fr h1 h2) h2⟩
theorem Km.of {w w' : World} (h : Below w.heap.size w w') : Km w w' := ⟨h.size, fun b cur t fr h1 _ => (h.block b (lt_of_block h1)).trans h1⟩
theorem Km.cell {w w' : World} (h : Km w w') {b i : Nat} {cur : Array Value} {t : TypeId} {fr : Nat × Nat} (hb : w.heap[b]? = some (Obj.cells cur t fr)) (h1 : MT t = false) {x : Value} (hx : w.cell? ⟨b, i, none⟩ = some x) : w'.cell? ⟨b, i, none⟩ = some x := by
  have := h.keep b cur t fr hb h1
  unfold World.cell? at hx ⊢
  simp only [hb, this] at hx ⊢
  exact hx
theorem Km.rdU {w w' : World} (h : Km w w') {u : Value} {p : List Nat} (hu : RdU w u (pti p)) (ht : TyB w u 22) : RdU w' u (pti p) := by
  obtain ⟨A, c, rfl, hx⟩ := RdU.point hu
  refine ⟨A, c, by simp [pti], fun hp => ?_⟩
  replace hp : 0 < p.length := by simpa [pti] using hp
  obtain ⟨b, o, rfl, hc⟩ := hx hp
  obtain ⟨cur, fr, hb⟩ := ht b o _ _ rfl
  refine ⟨b, o, rfl, fun j hj => ?_⟩
  have hj' : j < p.length := by simpa [pti] using hj
  have := h.cell hb (by decide) (hc j hj')
  simpa [pti] using this
theorem Km.tyB {w w' : World} (h : Km w w') {u : Value} {t : TypeId} (ht : TyB w u t) (h1 : MT t = false) : TyB w' u t := fun b o n c e => by
  obtain ⟨cur, fr, hb⟩ := ht b o n c e
  exact ⟨cur, fr, h.keep b cur t fr hb h1⟩
theorem Km.ptNew {w w' : World} (h : Km w w') {u : Value} {p : List Nat} (hu : PtNew w u p) : PtNew w' u p := by
  have h2 := hu.2
  refine ⟨h.rdU hu.rd hu.tyB, ?_⟩
  obtain ⟨b, o, c, cur, fr, e, hb⟩ := h2
  exact ⟨b, o, c, cur, fr, e, h.keep b cur _ fr hb (by decide)⟩
theorem Km.hd {w w' : World} (h : Km w w') {b : Nat} {lv : Int} {pr : List Nat} {v : Nat} {kp : Value} {s : Sm} (hh : Hd w b lv pr v kp s) : Hd w' b lv pr v kp s := by
  obtain ⟨cur, hb⟩ := hh.blk
  have hk : ∀ i x, w.cell? ⟨b, i, none⟩ = some x → w'.cell? ⟨b, i, none⟩ = some x := fun i x hx => h.cell hb (by decide) hx
  obtain ⟨u, h1, h2⟩ := hh.c1
  have ht := hh.ty h1
  exact ⟨hk _ _ hh.c0, ⟨u, hk _ _ h1, h.rdU h2 ht⟩, hk _ _ hh.c2, hk _ _ hh.c3, hk _ _ hh.c4, hk _ _ hh.c5, hk _ _ hh.c6, hk _ _ hh.c7, ⟨cur, h.keep b cur _ _ hb (by decide)⟩, ⟨u, hk _ _ h1, h.tyB ht (by decide)⟩⟩
theorem Km.slR {w w' : World} (h : Km w w') {b k : Nat} {l : List (Nat × Nat)} (hs : SlR w b k l) : SlR w' b k l := by
  obtain ⟨cur, fr, hb⟩ := hs.t0
  have hk : ∀ i x, w.cell? ⟨b, i, none⟩ = some x → w'.cell? ⟨b, i, none⟩ = some x := fun i x hx => h.cell hb (by decide) hx
  obtain ⟨v, h1, h2⟩ := hs.c2
  obtain ⟨v', h3, h4⟩ := hs.t2
  rw [h1] at h3
  injection h3 with h3
  subst h3
  refine ⟨hk _ _ hs.c0, hk _ _ hs.c1, ⟨v, hk _ _ h1, ?_⟩, hs.rw', hs.k1, hs.k16, ⟨cur, fr, h.keep b cur _ fr hb (by decide)⟩, ⟨v, hk _ _ h1, h.tyB h4 (by decide)⟩⟩
  obtain ⟨A, c, rfl, h5, h6⟩ := h2
  refine ⟨A, c, rfl, h5, fun hp => ?_⟩
  obtain ⟨g, o, rfl, h7⟩ := h6 hp
  obtain ⟨cur2, fr2, hb2⟩ := h4 g o _ _ rfl
  refine ⟨g, o, rfl, fun j hj => ?_⟩
  obtain ⟨a1, a2, a3⟩ := h7 j hj
  exact ⟨h.cell hb2 (by decide) a1, h.cell hb2 (by decide) a2, h.cell hb2 (by decide) a3⟩
theorem Km.nd {w w' : World} (h : Km w w') {k b : Nat} {l : List En} (hn : Nd w k b l) : Nd w' k b l := by
  induction hn with
  | leaf b p v hh hp ho hv => exact .leaf b p v (h.hd hh) hp ho hv
  | node b s n pre ks hh hs hk hn ih => exact .node b s n pre ks (h.hd hh) (h.slR hs) hk ih
theorem Km.rtN {w w' : World} (h : Km w w') {k : Nat} {r : Option Nat} {l : List En} (hr : RtN w k r l) : RtN w' k r l := by
  cases r with
  | none => exact hr
  | some b => exact h.nd hr
theorem Km.trR {w w' : World} (h : Km w w') {b k : Nat} {l : List En} (ht : TrR w b k l) : TrR w' b k l := by
  obtain ⟨cur, hb⟩ := ht.blk
  have hk : ∀ i x, w.cell? ⟨b, i, none⟩ = some x → w'.cell? ⟨b, i, none⟩ = some x := fun i x hx => h.cell hb (by decide) hx
  obtain ⟨r, h1, h2⟩ := ht.c1
  exact ⟨hk _ _ ht.c0, ⟨r, hk _ _ h1, h.rtN h2⟩, ht.k1, ht.k16, ⟨cur, h.keep b cur _ _ hb (by decide)⟩⟩
def clCells (c : Clh) (u : Value) : List Value := [u, .bool c.inO, .bool c.inA, .bool c.inB, .int .u64 (c.o : Nat), .int .u64 (c.a : Nat), .int .u64 (c.b : Nat)]
def CellsX (Pt : Value → List Nat → Prop) : List Clh → List Value → Prop
  | [], cs => cs = []
  | c :: l, cs => ∃ u ds, cs = clCells c u ++ ds ∧ Pt u c.p ∧ CellsX Pt l ds
theorem CellsX.length {Pt : Value → List Nat → Prop} {cs : List Value} {l : List Clh} (h : CellsX Pt l cs) : cs.length = l.length * 7 := by
  induction l generalizing cs with
  | nil => rw [show cs = [] from h]; rfl
  | cons c l ih =>
    obtain ⟨u, ds, rfl, _, hd⟩ := h
    rw [List.length_append, ih hd, List.length_cons]
    show 7 + _ = _
    omega
theorem CellsX.append {Pt : Value → List Nat → Prop} {cs ds : List Value} {l m : List Clh} (h : CellsX Pt l cs) (k : CellsX Pt m ds) : CellsX Pt (l ++ m) (cs ++ ds) := by
  induction l generalizing cs with
  | nil => rw [show cs = [] from h]; exact k
  | cons c l ih =>
    obtain ⟨u, es, rfl, hp, hd⟩ := h
    exact ⟨u, es ++ ds, by rw [List.append_assoc], hp, ih hd⟩
theorem CellsX.mono {Pt Qt : Value → List Nat → Prop} {cs : List Value} {l : List Clh} (h : CellsX Pt l cs) (hk : ∀ u p, Pt u p → Qt u p) : CellsX Qt l cs := by
  induction l generalizing cs with
  | nil => exact h
  | cons c l ih =>
    obtain ⟨u, es, e, hp, hd⟩ := h
    exact ⟨u, es, e, hk _ _ hp, ih hd⟩
end Go.Proofs.YtdkomhmciihkiaaGreat
/-! FitP -/
namespace Go.Proofs.YtdkomhmciihkiaaGreat
open Go.RowKit
set_option linter.unusedVariables false

def fitC1 (e : List En) (c : Ch) : Bool := (getE e c.p).isSome == c.had && decide ((getE e c.p).getD 0 = c.old)
def fitsL (e : List En) (l : List Ch) : Bool := l.all (fitC1 e)
theorem fits_get {e : List En} {l : List Ch} (h : fitsL e l = true) {c : Ch} (hc : c ∈ l) : (getE e c.p).isSome = c.had ∧ (getE e c.p).getD 0 = c.old := by
  have := List.all_eq_true.1 h c hc
  unfold fitC1 at this
  simpa using this
/-- the tail of what fits, behind the first one -/
theorem fits_tail {k : Nat} {e : List En} {c : Ch} {l : List Ch} (he : Et k e) (h : Rt k (c :: l)) (hf : fitsL e (c :: l) = true) : fitsL (if c.has then insE c.p c.new e else delE c.p e) l = true := by
  unfold fitsL at *
  rw [List.all_eq_true] at *
  intro d hd
  have h1 := hf d (by simp [hd])
  have hne : c.key < d.key := h.asc.head d hd
  have hg : getE (if c.has then insE c.p c.new e else delE c.p e) d.p = getE e d.p := by
    unfold getE
    congr 1
    have hn : ¬ pkey c.p = pkey d.p := by show ¬ c.key = d.key; omega
    split
    · unfold insE
      rw [(Od.asc_ins he.asc).2]
      exact if_neg hn
    · unfold delE
      rw [(Od.asc_del he.asc).2]
      exact if_neg hn
  unfold fitC1 at *
  rw [hg]
  exact h1
end Go.Proofs.YtdkomhmciihkiaaGreat
/-! TrC -/
namespace Go.Proofs.YtdkomhmciihkiaaGreat
open Go.RowKit
set_option linter.unusedVariables false
set_option linter.unusedSimpArgs false

theorem Nd.cov_none {w : World} {k b : Nat} {l : List En} {p : List Nat} (h : Nd w k b l) (hp : p.length = k) (ho : ∀ c ∈ p, c < 2 ^ 64) (hc : cov l p = false) : ∀ e ∈ l, e.key ≠ pkey p := by
  intro e he hk
  have h1 := h.cut e he
  rw [key_pt h.et hp ho he hk] at h1
  unfold cov at hc
  rw [h1] at hc
  simp at hc
theorem getE_one (p : List Nat) (x : Nat) : getE [⟨p, x⟩] p = some x := by
  unfold getE; rw [Od.look_cons, if_pos (show (⟨p, x⟩ : En).key = pkey p from rfl)]; rfl
theorem ins_one (p : List Nat) (x v : Nat) : insE p v [⟨p, x⟩] = [⟨p, v⟩] := by
  unfold insE Od.ins
  simp [En.key]
theorem del_one (p : List Nat) (x : Nat) : delE p [⟨p, x⟩] = [] := by
  unfold delE Od.del
  simp [En.key]
theorem ins_same {k : Nat} {l : List En} {p : List Nat} {v : Nat} (h : Et k l) (hp : p.length = k) (ho : ∀ c ∈ p, c < 2 ^ 64) (hg : getE l p = some v) : insE p v l = l := by
  refine (h.ins v hp ho).ext h fun e => ?_
  rw [h.mem_ins]
  have hmem : (⟨p, v⟩ : En) ∈ l := by
    unfold getE at hg
    cases e1 : Od.look En.key l (pkey p) with
    | none => rw [e1] at hg; simp at hg
    | some y =>
      rw [e1] at hg
      obtain ⟨h1, h2⟩ := Od.look_some e1
      have hv : y.v = v := by simpa using hg
      rw [← hv, ← key_pt h hp ho h1 h2]; exact h1
  constructor
  · rintro (rfl | ⟨h1, _⟩)
    · exact hmem
    · exact h1
  · intro he
    by_cases hk : e.key = pkey p
    · left
      have h1 := Od.look_mem h.asc he
      have h2 := Od.look_mem h.asc hmem
      rw [hk] at h1
      exact Option.some.inj (h1.symm.trans h2)
    · exact .inr ⟨he, hk⟩
/-- a path's end: what was found -/
theorem path_found {w w' : World} {k : Nat} {p bs : List Nat} {l : List En} {v : Value} {below : Option Nat} (hp : p.length = k) (ho : ∀ c ∈ p, c < 2 ^ 64) (k1 : 1 ≤ k) (k16 : k ≤ 16) (hb : Below w.heap.size w w') (hv : RdN w' v bs) (hbl : bs.length ≤ 65)
    (h : (∃ lr, Chain w k p bs l lr ∧ RtN w k below lr ∧ (below = none ∨ cov lr p = false)) ∨ (∃ bs0 b x, bs = bs0 ++ [b] ∧ Chain w k p bs0 l [⟨p, x⟩] ∧ Nd w k b [⟨p, x⟩] ∧ below = none)) :
    (getE l p = none ∧ (∃ lr, Chain w k p bs l lr ∧ RtN w k below lr ∧ getE lr p = none ∧ (∀ b, below = some b → cov lr p = false)) ∧ Calls Tryz.prog 114 #[v] w' fun e w2 => e = .returned (.tuple #[.agg #[.slice none 0 0, .int .u64 0], .bool false]) ∧ Below w'.heap.size w' w2) ∨
    (∃ x bs0 b, getE l p = some x ∧ bs = bs0 ++ [b] ∧ Chain w k p bs0 l [⟨p, x⟩] ∧ Calls Tryz.prog 114 #[v] w' fun e w2 => EntP w' p x e w2) := by
  rcases h with ⟨lr, hch, hr, hc⟩ | ⟨bs0, b, x, rfl, hch, hnd, rfl⟩
  · left
    have hg : getE lr p = none := by
      cases below with
      | none => obtain rfl : lr = [] := hr; rfl
      | some b => exact getE_none (Nd.cov_none hr hp ho (by rcases hc with h | h; · cases h
                                                            · exact h))
    refine ⟨by rw [hch.get hp ho, hg], ⟨lr, hch, hr, hg, fun b e => by rcases hc with h | h; · rw [h] at e; cases e
                                                                       · exact h⟩, ?_⟩
    rcases List.eq_nil_or_concat bs with rfl | ⟨bs', b, rfl⟩
    · obtain ⟨A, c, rfl, _, _⟩ := hv
      exact found_none _ _ _
    · rw [List.concat_eq_append] at *
      obtain ⟨s, n, pre, ks, hsub, hh, hs, hk, hn, hc, rfl⟩ := hch.inv
      exact found_node w' bs' b s v hv (Below.keeps hb _ _ hh.c3) (by simp at hbl; omega)
  · right
    refine ⟨x, bs0, b, by rw [hch.get hp ho, getE_one], rfl, hch, found_leaf w' bs0 b k x p v hv (hnd.bel hb) k1 k16 (by simp at hbl; omega)⟩
set_option maxRecDepth 100000
set_option maxHeartbeats 4000000 in
theorem tget_any (w : World) (t k : Nat) (p : List Nat) (l : List En) (vp : Value) (ht : TrR w t k l) (hp : RdU w vp (pti p)) (hl : p.length = k) (ho : ∀ c ∈ p, c < 2 ^ 64) :
    Calls Tryz.prog 93 #[.pointer (some ⟨t, 0, none⟩), vp] w fun e w' => e = .returned (.tuple #[.int .u64 (((getE l p).getD 0 : Nat)), .bool (getE l p).isSome, .int .i64 0]) ∧ Below w.heap.size w w' := by
  have HPA := Lib.hid (path_any w t k p l vp ht hp hl ho)
  have HCK := Lib.hid (fun n c A => tchk_any w t k n c A ht.c0)
  obtain ⟨A2, c2, rfl, _⟩ := RdU.point hp
  rw [hl] at HPA ⊢
  have HD := Lib.hid (And.intro hl (And.intro ho (And.intro ht.k1 ht.k16)))
  clear ht hp hl ho
  go_enter Tryz.func93, Tryz.ntmps93
  go_wp2_with fail
  refine (HCK.out k c2 A2).mono ?_
  rintro e w1 ⟨rfl, hw⟩
  obtain rfl := hw.symm
  rw [if_pos rfl]
  go_wp2_with fail
  refine HPA.out.mono ?_
  rintro e w1 ⟨v, bs, below, rfl, hown, hb, hbl, hcase⟩
  have hrd := hown.rdN
  rcases path_found HD.out.1 HD.out.2.1 HD.out.2.2.1 HD.out.2.2.2 hb hrd hbl hcase with ⟨hg, hlr, hf⟩ | ⟨x, bs0, b, hg, hbs, hch, hf⟩
  · clear hlr hbl
    have HF := Lib.hid hf
    have HB := Lib.hid hb
    obtain ⟨A, c, rfl, _, _⟩ := hrd
    obtain ⟨bq, hbq⟩ := pv_ex below
    rw [hbq]
    have HG := Lib.hid hg
    clear hf hb hcase hown hg
    go_wp2_with fail
    refine HF.out.mono ?_
    rintro e w2 ⟨rfl, hb2⟩
    have HB2r := Lib.hid hb2
    have HB2 := Lib.hid (HB.out.trans (hb2.mono HB.out.size))
    clear hb2
    go_wp2_with fail
    ((try simp only [Exit.inBlock, Exit.then]); refine bodyPost_ret (results_tmp3 rfl _ _ _) rfl ?_)
    exact ⟨by rw [HG.out] <;> rfl, (by repeat (first | exact HB2.out | (refine Below.drew ?_) | (refine below_drewN' ?_ _) | (refine below_alloc' ?_ _) | (refine Below.setCell ?_ (by first | exact Nat.le_refl _ | (have := HB2.out.size; simp; omega) | (have := HB2.out.size; omega)) _)))⟩
  · clear hbs hch hbl
    have HF := Lib.hid hf
    have HB := Lib.hid hb
    obtain ⟨A, c, rfl, _, _⟩ := hrd
    obtain ⟨bq, hbq⟩ := pv_ex below
    rw [hbq]
    have HG := Lib.hid hg
    clear hf hb hcase hown hg
    go_wp2_with fail
    refine HF.out.mono ?_
    rintro e w2 ⟨u, rfl, hpt, hb2⟩
    obtain ⟨A9, c9, rfl, _⟩ := RdU.point hpt.rd
    have HB2r := Lib.hid hb2
    have HB2 := Lib.hid (HB.out.trans (hb2.mono HB.out.size))
    clear hb2 hpt
    go_wp2_with fail
    ((try simp only [Exit.inBlock, Exit.then]); refine bodyPost_ret (results_tmp3 rfl _ _ _) rfl ?_)
    exact ⟨by rw [HG.out] <;> rfl, (by repeat (first | exact HB2.out | (refine Below.drew ?_) | (refine below_drewN' ?_ _) | (refine below_alloc' ?_ _) | (refine Below.setCell ?_ (by first | exact Nat.le_refl _ | (have := HB2.out.size; simp; omega) | (have := HB2.out.size; omega)) _)))⟩

/-- a leaf beside a node -/
theorem pair_list {w : World} {k ba bb m v : Nat} {p : List Nat} {la : List En} (hA : Nd w k ba la) (hB : Nd w k bb [⟨p, v⟩]) (hp : p.length = k) (ho : ∀ c ∈ p, c < 2 ^ 64) (hm : Zb.part (preL la) p 64 = m) (h1 : lev la ≤ m) (hg : ∀ e ∈ la, e.key ≠ pkey p) :
    cat ((pairKs (Zb.addr (preL la) m) (Zb.addr p m) ba bb la [⟨p, v⟩]).map kl) = insE p v la := by
  have h := pair_kd hA hB (m := m) (by rw [preL_one]; exact hm) h1 (by rw [lev_one]; omega)
  rw [preL_one] at h
  obtain ⟨hK, hne, _⟩ := h
  refine hK.cat_et.ext (hA.et.ins v hp ho) fun e => ?_
  have hasc : Od.Asc ka [(Zb.addr (preL la) m, ba, la)] := by unfold Od.Asc; simp
  rw [mem_cat, hA.et.mem_ins]
  constructor
  · rintro ⟨x, hx, he⟩
    obtain ⟨y, hy, rfl⟩ := List.mem_map.1 hx
    unfold pairKs at hy
    rcases (Od.mem_ins_iff (key := ka) hasc).1 hy with rfl | ⟨hy, _⟩
    · left; simpa [kl] using he
    · right
      obtain rfl : y = (Zb.addr (preL la) m, ba, la) := by simpa using hy
      exact ⟨he, hg e he⟩
  · rintro (rfl | ⟨he, _⟩)
    · exact ⟨_, List.mem_map.2 ⟨(Zb.addr p m, bb, [⟨p, v⟩]), (Od.mem_ins_iff (key := ka) hasc).2 (.inl rfl), rfl⟩, by simp [kl]⟩
    · exact ⟨_, List.mem_map.2 ⟨(Zb.addr (preL la) m, ba, la), (Od.mem_ins_iff (key := ka) hasc).2 (.inr ⟨by simp, by simpa [ka] using hne⟩), rfl⟩, he⟩
theorem RdN.take {w : World} {A : Option Addr} {n c j : Nat} {bs bs0 tl : List Nat} (h : RdN w (.slice A n c) bs) (he : bs = bs0 ++ tl) (hj : j = bs0.length) : RdN w (.slice A j c) bs0 := by
  obtain ⟨A', c', h1, hc, h2⟩ := h
  subst he hj
  injection h1 with e1 e2 e3
  subst e1 e3
  rw [List.length_append] at hc
  refine ⟨_, _, rfl, by omega, fun h0 => ?_⟩
  obtain ⟨g, h3, h4⟩ := h2 (by simp [h0])
  refine ⟨g, h3, fun j hj => ?_⟩
  rw [h4 j (by rw [List.length_append]; omega), List.getElem_append_left hj]
theorem part_lev {w : World} {k b : Nat} {l : List En} {p : List Nat} (h : Nd w k b l) (hp : p.length = k) (ho : ∀ c ∈ p, c < 2 ^ 64) (hc : cov l p = false) : ∃ m : Nat, Zb.part (preL l) p 64 = m ∧ lev l ≤ m := by
  obtain ⟨q1, q2, q3⟩ := h.pre_ok
  have h1 := cov_part l (lev l) q1 hp q2 ho q3
  unfold cov at hc
  rw [hc] at h1
  have h2 := of_decide_eq_false h1
  exact ⟨(Zb.part (preL l) p 64).toNat, by omega, by omega⟩
/-- Put: a tree with the entry; the same one where nothing changes, else a new one -/
def PutP (W : World) (t k : Nat) (p : List Nat) (v : Nat) (l : List En) (e : Ending) (w' : World) : Prop :=
  ∃ g, e = .returned (.tuple #[.pointer (some ⟨g, 0, none⟩), .int .i64 0]) ∧ TrR w' g k (insE p v l) ∧ Below W.heap.size W w' ∧ (getE l p = some v → g = t) ∧ (getE l p ≠ some v → W.heap.size ≤ g)
set_option maxHeartbeats 4000000 in
theorem tput_any (w : World) (t k v : Nat) (p : List Nat) (l : List En) (vp : Value) (ht : TrR w t k l) (hp : RdU w vp (pti p)) (hl : p.length = k) (ho : ∀ c ∈ p, c < 2 ^ 64) (hv : v < 2 ^ 64) :
    Calls Tryz.prog 59 #[.pointer (some ⟨t, 0, none⟩), vp, .int .u64 (v : Nat)] w fun e w' => PutP w t k p v l e w' := by
  have HPA := Lib.hid (path_any w t k p l vp ht hp hl ho)
  have HCK := Lib.hid (fun n c A => tchk_any w t k n c A ht.c0)
  have HV := Lib.hid hp
  obtain ⟨A2, c2, rfl, _⟩ := RdU.point hp
  rw [hl] at HPA HV ⊢
  have HD := Lib.hid (And.intro hl (And.intro ho (And.intro ht.k1 (And.intro ht.k16 hv))))
  have HT := Lib.hid ht
  clear ht hp hl ho hv
  go_enter Tryz.func59, Tryz.ntmps59
  go_wp2_with fail
  refine (HCK.out k c2 A2).mono ?_
  rintro e w1 ⟨rfl, hw⟩
  obtain rfl := hw.symm
  rw [if_pos rfl]
  go_wp2_with fail
  refine HPA.out.mono ?_
  rintro e w1 ⟨v0, bs, below, rfl, hown, hb, hbl, hcase⟩
  have hrd := hown.rdN
  rcases path_found HD.out.1 HD.out.2.1 HD.out.2.2.1 HD.out.2.2.2.1 hb hrd hbl hcase with ⟨hg, hlr, hf⟩ | ⟨x, bs0, b, hg, hbs, hch, hf⟩
  · have HF := Lib.hid hf
    have HB := Lib.hid hb
    have HR := Lib.hid (And.intro hrd hbl)
    have HG := Lib.hid (And.intro hg hlr)
    obtain ⟨A, c, rfl, _, _⟩ := hrd
    obtain ⟨bq, hbq⟩ := pv_ex below
    rw [hbq]
    have HBQ := Lib.hid hbq
    clear hf hb hcase hown hg hlr hbl hbq
    go_wp2_with fail
    refine HF.out.mono ?_
    rintro e w2 ⟨rfl, hb2⟩
    have HB2r := Lib.hid hb2
    have HB2 := Lib.hid (HB.out.trans (hb2.mono HB.out.size))
    clear hb2
    go_wp2_with fail
    have HLF := Lib.hid (fun w' (hb : Below w.heap.size w w') => nleaf_any w' p v _ (HV.out.below hb) (by have := HD.out; omega) (by have := HD.out; omega) HD.out.2.1 HD.out.2.2.2.2)
    refine (HLF.out _ (by repeat (first | exact HB2.out | (refine Below.drew ?_) | (refine below_drewN' ?_ _) | (refine below_alloc' ?_ _) | (refine Below.setCell ?_ (by first | exact Nat.le_refl _ | (have := HB2.out.size; simp; omega) | (have := HB2.out.size; omega)) _)))).mono ?_
    rintro e w3 ⟨g, rfl, hnd, hb3⟩
    have hb4 : Below w.heap.size w w3 := (show Below w.heap.size w _ from (by repeat (first | exact HB2.out | (refine Below.drew ?_) | (refine below_drewN' ?_ _) | (refine below_alloc' ?_ _) | (refine Below.setCell ?_ (by first | exact Nat.le_refl _ | (have := HB2.out.size; simp; omega) | (have := HB2.out.size; omega)) _)))).trans (hb3.mono (show w.heap.size ≤ _ from Below.size (by repeat (first | exact HB2.out | (refine Below.drew ?_) | (refine below_drewN' ?_ _) | (refine below_alloc' ?_ _) | (refine Below.setCell ?_ (by first | exact Nat.le_refl _ | (have := HB2.out.size; simp; omega) | (have := HB2.out.size; omega)) _)))))
    rw [HD.out.1] at hnd
    have hb1 : Below w1.heap.size w1 w3 := (show Below w1.heap.size w1 _ from (by repeat (first | exact HB2r.out | (refine Below.drew ?_) | (refine below_drewN' ?_ _) | (refine below_alloc' ?_ _) | (refine Below.setCell ?_ (by first | exact Nat.le_refl _ | (have := HB2r.out.size; simp; omega) | (have := HB2r.out.size; omega)) _)))).trans (hb3.mono (show w1.heap.size ≤ _ from Below.size (by repeat (first | exact HB2r.out | (refine Below.drew ?_) | (refine below_drewN' ?_ _) | (refine below_alloc' ?_ _) | (refine Below.setCell ?_ (by first | exact Nat.le_refl _ | (have := HB2r.out.size; simp; omega) | (have := HB2r.out.size; omega)) _)))))
    have HN := Lib.hid (And.intro hnd (And.intro hb4 (HR.out.1.below hb1)))
    clear hnd hb3 hb4 hb1
    obtain ⟨lr, hch, hr, hg0, hcv⟩ := HG.out.2
    cases below with
    | none =>
      obtain rfl : bq = none := by have := HBQ.out; rw [pv_none] at this; injection this with this; exact this.symm
      obtain rfl : lr = [] := hr
      have HUP := Lib.hid (up_any w3 t k g p bs l [] _ (insE p v) (Below.keeps HN.out.2.1 _ _ HT.out.c0) HD.out.2.2.1 HD.out.2.2.2.1 HN.out.2.2 (hch.bel HN.out.2.1) (opok_ins v HD.out.1 HD.out.2.1) HN.out.1 HR.out.2)
      clear hch hcv hg0
      go_wp2_with fail
      refine HUP.out.mono ?_
      rintro e w4 ⟨g4, rfl, ht4, hb4, hg4⟩
      have HF4 := Lib.hid (And.intro ht4 (And.intro (HN.out.2.1.trans (hb4.mono HN.out.2.1.size)) (Nat.le_trans HN.out.2.1.size hg4)))
      clear ht4 hb4 hg4
      go_wp2_with fail
      go_ret2
      exact ⟨g4, rfl, HF4.out.1, HF4.out.2.1, fun h => absurd (HG.out.1.symm.trans h) (by simp), fun _ => HF4.out.2.2⟩
    | some bb =>
      obtain rfl : bq = some ⟨bb, 0, none⟩ := by have := HBQ.out; rw [pv_some] at this; injection this with this; exact this.symm
      have hA : Nd w3 k bb lr := Nd.bel hr HN.out.2.1
      obtain ⟨m, hm1, hm2⟩ := part_lev hA HD.out.1 HD.out.2.1 (hcv bb rfl)
      have HPR := Lib.hid (npair_any w3 k bb g m lr [⟨p, v⟩] hA HN.out.1 (by rw [preL_one]; exact hm1) hm2 (by rw [lev_one]; omega) HD.out.2.2.1 HD.out.2.2.2.1)
      rw [preL_one, pair_list hA HN.out.1 HD.out.1 HD.out.2.1 hm1 hm2 (Nd.cov_none hA HD.out.1 HD.out.2.1 (hcv bb rfl))] at HPR
      have HUP := Lib.hid (fun w4 g4 (h : Below w3.heap.size w3 w4) (hn : Nd w4 k g4 (insE p v lr)) => up_any w4 t k g4 p bs l lr _ (insE p v) (Below.keeps (HN.out.2.1.trans (h.mono HN.out.2.1.size)) _ _ HT.out.c0) HD.out.2.2.1 HD.out.2.2.2.1 (HN.out.2.2.below h) (hch.bel (HN.out.2.1.trans (h.mono HN.out.2.1.size))) (opok_ins v HD.out.1 HD.out.2.1) hn HR.out.2)
      clear hch hcv hg0 hr hA hm1 hm2
      go_wp2_with fail
      refine HPR.out.mono ?_
      rintro e w4 ⟨g4, rfl, hn4, hb4⟩
      have HU4 := Lib.hid (And.intro (HUP.out w4 g4 hb4 hn4) (HN.out.2.1.trans (hb4.mono HN.out.2.1.size)))
      clear hn4 hb4
      go_wp2_with fail
      refine HU4.out.1.mono ?_
      rintro e w5 ⟨g5, rfl, ht4, hb4, hg4⟩
      have HF4 := Lib.hid (And.intro ht4 (And.intro (HU4.out.2.trans (hb4.mono HU4.out.2.size)) (Nat.le_trans HU4.out.2.size hg4)))
      clear ht4 hb4 hg4
      go_wp2_with fail
      go_ret2
      exact ⟨g5, rfl, HF4.out.1, HF4.out.2.1, fun h => absurd (HG.out.1.symm.trans h) (by simp), fun _ => HF4.out.2.2⟩
  · have HF := Lib.hid hf
    have HB := Lib.hid hb
    have HR := Lib.hid (And.intro hrd hbl)
    have HG := Lib.hid (And.intro hg (And.intro hbs hch))
    obtain ⟨A, c, rfl, _, _⟩ := hrd
    obtain ⟨bq, hbq⟩ := pv_ex below
    rw [hbq]
    clear hf hb hcase hown hg hbs hch hbl hbq
    go_wp2_with fail
    refine HF.out.mono ?_
    rintro e w2 ⟨u, rfl, hpt, hb2⟩
    obtain ⟨A9, c9, rfl, _⟩ := RdU.point hpt.rd
    have HB2r := Lib.hid hb2
    have HB2 := Lib.hid (HB.out.trans (hb2.mono HB.out.size))
    clear hb2 hpt
    by_cases hxv : x = v
    · subst hxv
      have h1 : ((x : Int) == (x : Int)) = true := by simp
      go_wp2_with fail
      go_ret2
      exact ⟨t, rfl, by rw [ins_same HT.out.et HD.out.1 HD.out.2.1 HG.out.1]; exact HT.out.bel (by repeat (first | exact HB2.out | (refine Below.drew ?_) | (refine below_drewN' ?_ _) | (refine below_alloc' ?_ _) | (refine Below.setCell ?_ (by first | exact Nat.le_refl _ | (have := HB2.out.size; simp; omega) | (have := HB2.out.size; omega)) _))), (by repeat (first | exact HB2.out | (refine Below.drew ?_) | (refine below_drewN' ?_ _) | (refine below_alloc' ?_ _) | (refine Below.setCell ?_ (by first | exact Nat.le_refl _ | (have := HB2.out.size; simp; omega) | (have := HB2.out.size; omega)) _))), fun _ => rfl, fun h => absurd HG.out.1 h⟩
    · have h1 : ((x : Int) == (v : Int)) = false := by simp; omega
      go_wp2_with fail
      have HLF := Lib.hid (fun w' (hb : Below w.heap.size w w') => nleaf_any w' p v _ (HV.out.below hb) (by have := HD.out; omega) (by have := HD.out; omega) HD.out.2.1 HD.out.2.2.2.2)
      refine (HLF.out _ (by repeat (first | exact HB2.out | (refine Below.drew ?_) | (refine below_drewN' ?_ _) | (refine below_alloc' ?_ _) | (refine Below.setCell ?_ (by first | exact Nat.le_refl _ | (have := HB2.out.size; simp; omega) | (have := HB2.out.size; omega)) _)))).mono ?_
      rintro e w3 ⟨g, rfl, hnd, hb3⟩
      have hb4 : Below w.heap.size w w3 := (show Below w.heap.size w _ from (by repeat (first | exact HB2.out | (refine Below.drew ?_) | (refine below_drewN' ?_ _) | (refine below_alloc' ?_ _) | (refine Below.setCell ?_ (by first | exact Nat.le_refl _ | (have := HB2.out.size; simp; omega) | (have := HB2.out.size; omega)) _)))).trans (hb3.mono (show w.heap.size ≤ _ from Below.size (by repeat (first | exact HB2.out | (refine Below.drew ?_) | (refine below_drewN' ?_ _) | (refine below_alloc' ?_ _) | (refine Below.setCell ?_ (by first | exact Nat.le_refl _ | (have := HB2.out.size; simp; omega) | (have := HB2.out.size; omega)) _)))))
      have hb1 : Below w1.heap.size w1 w3 := (show Below w1.heap.size w1 _ from (by repeat (first | exact HB2r.out | (refine Below.drew ?_) | (refine below_drewN' ?_ _) | (refine below_alloc' ?_ _) | (refine Below.setCell ?_ (by first | exact Nat.le_refl _ | (have := HB2r.out.size; simp; omega) | (have := HB2r.out.size; omega)) _)))).trans (hb3.mono (show w1.heap.size ≤ _ from Below.size (by repeat (first | exact HB2r.out | (refine Below.drew ?_) | (refine below_drewN' ?_ _) | (refine below_alloc' ?_ _) | (refine Below.setCell ?_ (by first | exact Nat.le_refl _ | (have := HB2r.out.size; simp; omega) | (have := HB2r.out.size; omega)) _)))))
      rw [HD.out.1] at hnd
      have hlen : bs.length = bs0.length + 1 := by rw [HG.out.2.1]; simp
      have HUP := Lib.hid (up_any w3 t k g p bs0 l _ (.slice A bs0.length c) (insE p v) (Below.keeps hb4 _ _ HT.out.c0) HD.out.2.2.1 HD.out.2.2.2.1 ((HR.out.1.below hb1).take HG.out.2.1 rfl) (HG.out.2.2.bel hb4) (opok_ins v HD.out.1 HD.out.2.1) (by rw [ins_one]; exact hnd) (by have := HR.out.2; omega))
      have HN := Lib.hid hb4
      have hc := HR.out.1
      obtain ⟨A', c', he1, hc, hA⟩ := hc
      injection he1 with he0 _ he1
      subst he1 he0
      obtain ⟨ga, rfl, _⟩ := hA (by rw [HG.out.2.1]; simp)
      have hc0 : ¬ c = 0 := by omega
      have hw0 : wrap64 (bs0.length : Int) = (bs0.length : Int) := by have := HR.out.2; unfold wrap64; omega
      have h2 : (0 : Int) ≤ (bs0.length : Int) := by omega
      have h3 : (bs0.length : Int) ≤ (c : Int) := by omega
      have HLE := Lib.hid hlen
      rw [hlen]
      clear hnd hb3 hb4 hb1 hlen hc hA
      go_wp2_with fail
      refine HUP.out.mono ?_
      rintro e w4 ⟨g4, rfl, ht4, hb4, hg4⟩
      have HF4 := Lib.hid (And.intro ht4 (And.intro (HN.out.trans (hb4.mono HN.out.size)) (Nat.le_trans HN.out.size hg4)))
      clear ht4 hb4 hg4
      go_wp2_with fail
      go_ret2
      exact ⟨g4, rfl, HF4.out.1, HF4.out.2.1, fun h => absurd (Option.some.inj (HG.out.1.symm.trans h)) hxv, fun _ => HF4.out.2.2⟩
end Go.Proofs.YtdkomhmciihkiaaGreat
/-! TrD -/
namespace Go.Proofs.YtdkomhmciihkiaaGreat
open Go.RowKit
set_option linter.unusedVariables false
set_option linter.unusedSimpArgs false

theorem without_path {w w1 : World} {k b s n x : Nat} {p pre : List Nat} {ks : List (Nat × Nat × List En)} (hb : Below w.heap.size w w1) (hp : p.length = k) (ho : ∀ c ∈ p, c < 2 ^ 64)
    (h : Hd w b n pre 0 (.pointer (some ⟨s, 0, none⟩)) (sumsL (cat (ks.map kl)))) (hs : SlR w s k (ks.map kb)) (hk : Kd k n pre (ks.map kl)) (hn : ∀ x ∈ ks, Nd w k x.2.1 x.2.2) (he : [⟨p, x⟩] = kidOf (Zb.addr p n) (ks.map kl)) :
    Calls Tryz.prog 192 #[.pointer (some ⟨b, 0, none⟩), .int .i64 (Zb.addr p n : Nat)] w1 fun e w' => NdT w1 k (delE p (cat (ks.map kl))) e w' := by
  obtain ⟨d1, d2, d3⟩ := hk.delOut hp ho (by rw [← he, del_one])
  obtain ⟨y, hy, hya, _⟩ := kidOf_mem (show (⟨p, x⟩ : En) ∈ kidOf (Zb.addr p n) (ks.map kl) by rw [← he]; simp)
  obtain ⟨z, hz, rfl⟩ := List.mem_map.1 hy
  obtain ⟨i0, hi0, rfl⟩ := List.getElem_of_mem hz
  have hlen : (Od.del ka (Zb.addr p n) (ks.map kl)).length + 1 = (ks.map kl).length := Od.del_length_eq (key := ka) (by
    intro e
    exact Od.look_none (key := ka) e _ hy hya)
  have h2 := hk.two
  have hdk := (del_ks (Zb.addr p n) ks).2
  rcases Nat.lt_or_ge (Od.del ka (Zb.addr p n) (ks.map kl)).length 2 with hlt | hge
  · have h1 : (Od.del ka (Zb.addr p n) ks).length = 1 := by rw [← hdk, List.length_map] at hlen hlt; omega
    obtain ⟨y, hy1⟩ := List.length_eq_one_iff.1 h1
    have hmem : y ∈ ks := by
      have : y ∈ Od.del ka (Zb.addr p n) ks := by rw [hy1]; simp
      have hasc : Od.Asc ka ks := by
        have := hk.asc
        unfold Od.Asc at this ⊢
        exact (List.pairwise_map (f := kl)).1 this
      exact ((Od.mem_del_iff (key := ka) hasc).1 this).1
    refine (nwo_one w1 k b s n i0 _ pre ks y (h.keep hb) (hs.below hb) hi0 hya hy1).mono ?_
    rintro e w2 ⟨rfl, hb2⟩
    refine ⟨_, rfl, ?_, hb2⟩
    have hc := d3 (by omega)
    rw [← hdk, hy1] at hc
    have : cat ([y].map kl) = y.2.2 := by simp [cat, kl]
    rw [← hc, this]
    exact ((hn y hmem).bel hb).bel hb2
  · rw [← d3 (by omega)]
    exact nwo_more w1 k b s n i0 _ pre ks (h.keep hb) (hs.below hb) (fun x hx => (hn x hx).bel hb) hi0 hya (d1 hge)
/-- Del -/
def DelP (W : World) (k : Nat) (p : List Nat) (l : List En) (e : Ending) (w' : World) : Prop := Below W.heap.size W w' ∧
  ((getE l p = none ∧ e = .returned (.tuple #[.pointer none, .int .i64 6])) ∨ (∃ x g, getE l p = some x ∧ e = .returned (.tuple #[.pointer (some ⟨g, 0, none⟩), .int .i64 0]) ∧ TrR w' g k (delE p l) ∧ W.heap.size ≤ g))
set_option maxRecDepth 100000
set_option maxHeartbeats 4000000 in
theorem tdel_any (w : World) (t k : Nat) (p : List Nat) (l : List En) (vp : Value) (ht : TrR w t k l) (hp : RdU w vp (pti p)) (hl : p.length = k) (ho : ∀ c ∈ p, c < 2 ^ 64) :
    Calls Tryz.prog 132 #[.pointer (some ⟨t, 0, none⟩), vp] w fun e w' => DelP w k p l e w' := by
  have HPA := Lib.hid (path_any w t k p l vp ht hp hl ho)
  have HCK := Lib.hid (fun n c A => tchk_any w t k n c A ht.c0)
  have HV := Lib.hid hp
  obtain ⟨A2, c2, rfl, _⟩ := RdU.point hp
  rw [hl] at HPA HV ⊢
  have HD := Lib.hid (And.intro hl (And.intro ho (And.intro ht.k1 ht.k16)))
  have HT := Lib.hid ht
  clear ht hp hl ho
  go_enter Tryz.func132, Tryz.ntmps132
  go_wp2_with fail
  refine (HCK.out k c2 A2).mono ?_
  rintro e w1 ⟨rfl, hw⟩
  obtain rfl := hw.symm
  rw [if_pos rfl]
  go_wp2_with fail
  refine HPA.out.mono ?_
  rintro e w1 ⟨v0, bs, below, rfl, hown, hb, hbl, hcase⟩
  have hrd := hown.rdN
  rcases path_found HD.out.1 HD.out.2.1 HD.out.2.2.1 HD.out.2.2.2 hb hrd hbl hcase with ⟨hg, hlr, hf⟩ | ⟨x, bs0, b, hg, hbs, hch, hf⟩
  · have HF := Lib.hid hf
    have HB := Lib.hid hb
    have HG := Lib.hid hg
    obtain ⟨A, c, rfl, _, _⟩ := hrd
    obtain ⟨bq, hbq⟩ := pv_ex below
    rw [hbq]
    clear hf hb hcase hown hg hlr hbl hbq
    go_wp2_with fail
    refine HF.out.mono ?_
    rintro e w2 ⟨rfl, hb2⟩
    have HB2 := Lib.hid (HB.out.trans (hb2.mono HB.out.size))
    clear hb2
    go_wp2_with fail
    go_ret2
    exact ⟨(by repeat (first | exact HB2.out | (refine Below.drew ?_) | (refine below_drewN' ?_ _) | (refine below_alloc' ?_ _) | (refine Below.setCell ?_ (by first | exact Nat.le_refl _ | (have := HB2.out.size; simp; omega) | (have := HB2.out.size; omega)) _))), .inl ⟨HG.out, rfl⟩⟩
  · have HF := Lib.hid hf
    have HB := Lib.hid hb
    have HR := Lib.hid (And.intro hrd hbl)
    have HG := Lib.hid (And.intro hg (And.intro hbs hch))
    obtain ⟨A, c, rfl, hcc, hA⟩ := hrd
    obtain ⟨ga, rfl, hcells⟩ := hA (by rw [hbs]; simp)
    obtain ⟨bq, hbq⟩ := pv_ex below
    rw [hbq]
    rcases List.eq_nil_or_concat bs0 with rfl | ⟨bs1, b1, rfl⟩
    · have hlen : bs.length = 1 := by rw [hbs]; rfl
      rw [hlen] at HF ⊢
      clear hf hb hcase hown hg hbs hch hbl hbq hcells hA hlen hcc
      go_wp2_with fail
      refine HF.out.mono ?_
      rintro e w2 ⟨u, rfl, hpt, hb2⟩
      obtain ⟨A9, c9, rfl, _⟩ := RdU.point hpt.rd
      have HB2 := Lib.hid (HB.out.trans (hb2.mono HB.out.size))
      have t0 := Below.keeps HB2.out _ _ HT.out.c0
      have htl : t < w2.heap.size := World.block_lt_of_cell? _ _ t0
      clear hb2 hpt
      have htn : ¬ w2.heap.size = t := by omega
      go_wp2_with fail
      go_ret2
      have hl : l = [⟨p, x⟩] := by
        have := HG.out.2.2
        generalize hbs : ([] : List Nat) = ys at this
        generalize he : [(⟨p, x⟩ : En)] = zs at this
        cases this with
        | nil => rfl
        | snoc bs' _ b' s n pre ks sub h hs hk hn hc => simp at hbs
      refine ⟨(by repeat (first | exact HB2.out | (refine Below.drew ?_) | (refine below_drewN' ?_ _) | (refine below_alloc' ?_ _) | (refine Below.setCell ?_ (by first | exact Nat.le_refl _ | (have := HB2.out.size; simp; omega) | (have := HB2.out.size; omega)) _))), .inr ⟨x, _, HG.out.1, rfl, ⟨?_, ⟨none, ?_, ?_⟩, HD.out.2.2.1, HD.out.2.2.2, _, (by have h := alloc_blk (w2.alloc (.cells #[.slice A9 p.length c9, .int .u64 (x : Nat)] 35)) (.cells #[.int .i64 (k : Nat), .pointer none] 194); rw [World.size_alloc] at h; exact h)⟩, ?_⟩⟩
      · simp [go_sem]
      · simp [go_sem, pv_none]
      · rw [hl, del_one]; exact rfl
      · have := HB2.out.size; simp; omega
    · rw [List.concat_eq_append] at *
      have hlen : bs.length = bs1.length + 2 := by rw [hbs]; simp
      obtain ⟨s, n, pre, ks, hsub, hh, hs, hk, hn, hc, he⟩ := hch.inv
      have HWO := Lib.hid (fun w1 hb => without_path (w := w) (w1 := w1) hb HD.out.1 HD.out.2.1 hh hs hk hn he)
      have hj := hcells bs1.length (by omega)
      have hb1 : bs[bs1.length]'(by omega) = b1 := by simp [hbs]
      rw [hb1] at hj
      have HJ := Lib.hid hj
      have HLV := Lib.hid (fun w1 (hb : Below w.heap.size w w1) => nlev_any w1 b1 n (Below.keeps hb _ _ hh.c0))
      have HZA := Lib.hid (fun w1 (hb : Below w.heap.size w w1) => zAddr_any p n _ w1 (HV.out.below hb) (by have := HD.out; omega) (by have := HD.out; omega) HD.out.2.1 hk.n64)
      have HX := Lib.hid (And.intro hsub hlen)
      have HD0 := Lib.hid (And.intro (del_one p x) he)
      have HP := Lib.hid (HR.out.1.take (tl := [b1, b]) (j := bs1.length) (bs0 := bs1) (by rw [hbs]; simp) rfl)
      have h1 : (0 : Int) ≤ (bs1.length : Int) := by omega
      have h2 : (bs1.length : Int) < (bs1.length : Int) + 2 := by omega
      have h3 : (bs1.length : Int) ≤ (c : Int) := by omega
      have h4 : (((bs1.length : Int) + 2) == 1) = false := by simp; omega
      have hc0 : ¬ c = 0 := by omega
      have hw0 : wrap64 (bs1.length : Int) = (bs1.length : Int) := by unfold wrap64; omega
      rw [hlen] at HF ⊢
      clear hf hb hcase hown hg hbs hch hbl hbq hcells hA hlen hcc hsub hh hs hk hn hc he hj hb1
      go_wp2_with fail
      refine HF.out.mono ?_
      rintro e w2 ⟨u, rfl, hpt, hb2⟩
      obtain ⟨A9, c9, rfl, _⟩ := RdU.point hpt.rd
      have HB2 := Lib.hid (HB.out.trans (hb2.mono HB.out.size))
      have HB2r := Lib.hid hb2
      have x0 := Below.keeps hb2 _ _ HJ.out
      have hxl : ga < w2.heap.size := World.block_lt_of_cell? w2 _ x0
      have hgn : ¬ w2.heap.size = ga := by omega
      clear hb2 hpt
      go_wp2_with fail
      refine (HLV.out _ (by repeat (first | exact HB2.out | (refine Below.drew ?_) | (refine below_drewN' ?_ _) | (refine below_alloc' ?_ _) | (refine Below.setCell ?_ (by first | exact Nat.le_refl _ | (have := HB2.out.size; simp; omega) | (have := HB2.out.size; omega)) _)))).mono ?_
      rintro e w3 ⟨rfl, hw⟩
      obtain rfl := hw.symm
      go_wp2_with fail
      refine (HZA.out _ (by repeat (first | exact HB2.out | (refine Below.drew ?_) | (refine below_drewN' ?_ _) | (refine below_alloc' ?_ _) | (refine Below.setCell ?_ (by first | exact Nat.le_refl _ | (have := HB2.out.size; simp; omega) | (have := HB2.out.size; omega)) _)))).mono ?_
      rintro e w3 ⟨rfl, hw⟩
      obtain rfl := hw.symm
      go_wp2_with fail
      refine (HWO.out _ (by repeat (first | exact HB2.out | (refine Below.drew ?_) | (refine below_drewN' ?_ _) | (refine below_alloc' ?_ _) | (refine Below.setCell ?_ (by first | exact Nat.le_refl _ | (have := HB2.out.size; simp; omega) | (have := HB2.out.size; omega)) _)))).mono ?_
      rintro e w3 ⟨g3, rfl, hn3, hb3⟩
      have hb4 : Below w.heap.size w w3 := (show Below w.heap.size w _ from (by repeat (first | exact HB2.out | (refine Below.drew ?_) | (refine below_drewN' ?_ _) | (refine below_alloc' ?_ _) | (refine Below.setCell ?_ (by first | exact Nat.le_refl _ | (have := HB2.out.size; simp; omega) | (have := HB2.out.size; omega)) _)))).trans (hb3.mono (show w.heap.size ≤ _ from Below.size (by repeat (first | exact HB2.out | (refine Below.drew ?_) | (refine below_drewN' ?_ _) | (refine below_alloc' ?_ _) | (refine Below.setCell ?_ (by first | exact Nat.le_refl _ | (have := HB2.out.size; simp; omega) | (have := HB2.out.size; omega)) _)))))
      have hb1 : Below w1.heap.size w1 w3 := (show Below w1.heap.size w1 _ from (by repeat (first | exact HB2r.out | (refine Below.drew ?_) | (refine below_drewN' ?_ _) | (refine below_alloc' ?_ _) | (refine Below.setCell ?_ (by first | exact Nat.le_refl _ | (have := HB2r.out.size; simp; omega) | (have := HB2r.out.size; omega)) _)))).trans (hb3.mono (show w1.heap.size ≤ _ from Below.size (by repeat (first | exact HB2r.out | (refine Below.drew ?_) | (refine below_drewN' ?_ _) | (refine below_alloc' ?_ _) | (refine Below.setCell ?_ (by first | exact Nat.le_refl _ | (have := HB2r.out.size; simp; omega) | (have := HB2r.out.size; omega)) _)))))
      have HUP := Lib.hid (up_any w3 t k g3 p bs1 l _ _ (delE p) (Below.keeps hb4 _ _ HT.out.c0) HD.out.2.2.1 HD.out.2.2.2 (HP.out.below hb1) (HX.out.1.bel hb4) (opok_del HD.out.1 HD.out.2.1) hn3 (by have := HR.out.2; have := HX.out.2; omega))
      have HN := Lib.hid hb4
      clear hn3 hb3 hb4 hb1
      go_wp2_with fail
      refine HUP.out.mono ?_
      rintro e w4 ⟨g4, rfl, ht4, hb4, hg4⟩
      have HF4 := Lib.hid (And.intro ht4 (And.intro (HN.out.trans (hb4.mono HN.out.size)) (Nat.le_trans HN.out.size hg4)))
      clear ht4 hb4 hg4
      go_wp2_with fail
      go_ret2
      exact ⟨HF4.out.2.1, .inr ⟨x, g4, HG.out.1, rfl, HF4.out.1, HF4.out.2.2⟩⟩
end Go.Proofs.YtdkomhmciihkiaaGreat
/-! TrE -/
namespace Go.Proofs.YtdkomhmciihkiaaGreat
open Go.RowKit
set_option linter.unusedVariables false
set_option linter.unusedSimpArgs false

set_option maxRecDepth 100000
theorem of_nil (w : World) (k : Nat) (k1 : 1 ≤ k) (k16 : k ≤ 16) :
    Calls Tryz.prog 60 #[.int .i64 (k : Nat), .pointer none] w fun e w' => ∃ g, e = .returned (.tuple #[.pointer (some ⟨g, 0, none⟩), .int .i64 0]) ∧ TrR w' g k [] ∧ Below w.heap.size w w' := by
  have HD := Lib.hid (And.intro k1 k16)
  have h1 : ¬ (k : Int) < 1 := by omega
  have h2 : ¬ (k : Int) > 16 := by omega
  have h3 : decide ((k : Int) < 1) = false := by simp; omega
  have h4 : decide ((k : Int) > 16) = false := by simp; omega
  clear k1 k16
  go_enter Tryz.func60, Tryz.ntmps60
  go_wp2_with fail
  go_ret2
  exact ⟨_, rfl, ⟨by simp [go_sem], ⟨none, by simp [go_sem, pv_none], rfl⟩, HD.out.1, HD.out.2, _, alloc_blk _ _⟩, (by repeat (first | exact Below.refl _ _ | (refine Below.drew ?_) | (refine below_drewN' ?_ _) | (refine below_alloc' ?_ _) | (refine Below.setCell ?_ (by first | exact Nat.le_refl _ | (simp; done) | (simp; omega)) _)))⟩
theorem tnew_any (w : World) (k : Nat) (k1 : 1 ≤ k) (k16 : k ≤ 16) :
    Calls Tryz.prog 15 #[.int .i64 (k : Nat)] w fun e w' => ∃ g, e = .returned (.tuple #[.pointer (some ⟨g, 0, none⟩), .int .i64 0]) ∧ TrR w' g k [] ∧ Below w.heap.size w w' := by
  have HO := Lib.hid (of_nil w k k1 k16)
  clear k1 k16
  go_enter Tryz.func15, Tryz.ntmps15
  go_wp2_with fail
  refine HO.out.mono ?_
  rintro e w1 ⟨g, rfl, ht, hb⟩
  have HT := Lib.hid (And.intro ht hb)
  clear ht hb
  go_wp2_with fail
  go_ret2
  exact ⟨g, rfl, HT.out.1, HT.out.2⟩
end Go.Proofs.YtdkomhmciihkiaaGreat
/-! ThenF -/
namespace Go.Proofs.YtdkomhmciihkiaaGreat
open Go.RowKit
set_option linter.unusedVariables false
set_option linter.unusedSimpArgs false

/-- a pointer to a change, or nil -/
def PtrC (w : World) (v : Value) : Option Ch → Prop
  | none => v = .pointer none
  | some c => ∃ b o, v = .pointer (some ⟨b, o, none⟩) ∧ ChAt w b o c
/-- so much has been gathered in the captured variable -/
def InvT (W : World) (B : Nat) (o : List Ch) (w : World) : Prop :=
  ∃ vo, w.heap[B]? = some (.cells #[vo] 81 (0, 0)) ∧ OwnC (PtNew w) W w vo o ∧ Below W.heap.size W w
theorem OwnC.shape {Pt : Value → List Nat → Prop} {W w : World} {v : Value} {l : List Ch} (h : OwnC Pt W w v l) : ∃ A n c, v = .slice A n c := by
  obtain ⟨cs, ⟨h1, h2⟩, h3⟩ := h
  rcases h2 with ⟨rfl, _⟩ | ⟨g, cap, cur, rfl, _⟩
  · exact ⟨_, _, _, rfl⟩
  · exact ⟨_, _, _, rfl⟩
theorem InvT.push {W w3 w4 : World} {B : Nat} {vo v' : Value} {o o' : List Ch} (hB : W.heap.size ≤ B) (hblk : w3.heap[B]? = some (.cells #[vo] 81 (0, 0))) (hown : OwnC (PtNew w3) W w3 vo o) (hb : Below W.heap.size W w3)
    (hown' : OwnC (PtNew w3) W w4 v' o') (hg : w3.grownBy w4 vo.ownBlock) : w4.heap[B]? = some (.cells #[vo] 81 (0, 0)) ∧ InvT W B o' (w4.setCell ⟨B, 0, none⟩ v') := by
  have hneB : some B ≠ vo.ownBlock := by
    intro e
    obtain ⟨_, cur, hc⟩ := hown.block B e.symm
    rw [hblk] at hc
    injection hc with hc
    injection hc with _ hc _
    exact absurd hc (by decide)
  have h4 : w4.heap[B]? = some (.cells #[vo] 81 (0, 0)) := (hg.block B (lt_of_block hblk) hneB).trans hblk
  have hneB' : v'.ownBlock ≠ some B := by
    intro e
    obtain ⟨_, cur, hc⟩ := hown'.block B e
    rw [h4] at hc
    injection hc with hc
    injection hc with _ hc _
    exact absurd hc (by decide)
  refine ⟨h4, v', one_setCell h4, ?_, ?_⟩
  · obtain ⟨cs, ho, hc⟩ := hown'
    refine ⟨cs, ownsRow_setCell_other ho hneB' _, hc.mono fun u p hp => ?_⟩
    have hp4 : PtNew w4 u p := hp.keepBlock fun b cur fr hbk => by
      refine hg.block b (lt_of_block hbk) ?_
      intro e
      obtain ⟨_, cur', hc'⟩ := hown.block b e.symm
      rw [hbk] at hc'
      injection hc' with hc'
      injection hc' with _ hc' _
      exact absurd hc' (by decide)
    exact hp4.keepBlock fun b cur fr hbk => by
      refine Below.heap_setCell _ _ _ _ ?_
      intro e
      have e' : b = B := e
      rw [e', h4] at hbk
      injection hbk with hbk
      injection hbk with _ hbk _
      exact absurd hbk (by decide)
  · exact (hb.grown hg hb.size fun k hk => (hown.block k hk).1).setCell hB _



































































































































































































































end Go.Proofs.YtdkomhmciihkiaaGreat
/-! FitA -/
namespace Go.Proofs.YtdkomhmciihkiaaGreat
open Go.RowKit
set_option linter.unusedVariables false
set_option linter.unusedSimpArgs false
set_option maxRecDepth 100000

theorem enters_lit' {P : Program} {f : FuncId} {fn : Func} (hf : P.funcs[f]? = some fn) (hname : (fn.name == "runtime.NumGoroutine") = false) (hb : fn.body.isSome = true) (args : Array Value) (w : World) :
    (callFunc f args).run P w = .ok (.enter f args) w := by
  have h1 : fn.name ≠ "runtime.NumGoroutine" := by simpa using hname
  obtain ⟨c, hc⟩ := Option.isSome_iff_exists.1 hb
  simp [callFunc, hf, h1, hc]
def TellF (w : World) (f : FuncId) (cb : Array Value) (l : List Ch) (p : Ch → Bool) : Prop := ∀ c ∈ l, ∀ u w', RdU w' u (pti c.p) → Below w.heap.size w w' → Calls Tryz.prog f (#[.agg #[u, .bool c.had, .bool c.has, .int .u64 (c.old : Nat), .int .u64 (c.new : Nat)]] ++ cb) w' fun e w'' => e = .returned (.bool (p c)) ∧ Below w'.heap.size w' w''
def IdxP (W : World) (l : List Ch) (p : Ch → Bool) (e : Ending) (w' : World) : Prop := ∃ i : Int, e = .returned (.int .i64 i) ∧ (decide (0 ≤ i) = l.any p) ∧ Below W.heap.size W w'
set_option maxHeartbeats 1000000 in
theorem cIndex_any (w : World) (f : FuncId) (cb : Array Value) (l : List Ch) (v : Value) (p : Ch → Bool) (hl : RdC w v l) (hn : l.length ≤ 1000) (hf : TellF w f cb l p)
    (hent : ∀ (args : Array Value) (w : World), (callFunc f args).run Tryz.prog w = .ok (.enter f args) w) : Calls Tryz.prog 245 #[v, .func (.func f) #[] cb] w fun e w' => IdxP w l p e w' := by
  obtain ⟨A, cc, rfl, hx⟩ := hl
  have HX := Lib.hid hx
  have HF := Lib.hid (And.intro hf hn)
  clear hx hf hn
  go_enter Tryz.func245, Tryz.ntmps245
  go_wp2_with fail
  go_loopw [5, 8] (fun _ iv wr => ∃ j : Nat, j ≤ l.length ∧ iv = .int .i64 (j : Nat) ∧ (l.take j).any p = false ∧ Below w.heap.size w wr) (fun _ iv _ => l.length - (intOf iv).toNat)
  case atStart => exact ⟨0, Nat.zero_le _, rfl, by simp, (by repeat (first | exact Below.refl _ _ | (refine Below.drew ?_) | (refine below_drewN' ?_ _) | (refine below_alloc' ?_ _) | (refine Below.setCell ?_ (by first | exact Nat.le_refl _ | (simp; done) | (simp; omega)) _)))⟩
  case round =>
    obtain ⟨j, hj, rfl, hany, hb⟩ := hrel
    have HB := Lib.hid (And.intro hany hb)
    clear hany
    by_cases hlt : j < l.length
    · have h3 : (j : Int) < (l.length : Int) := by omega
      have h5 : (0 : Int) ≤ (j : Int) := by omega
      have HW := Lib.hid (show wrap64 ((j : Int) + 1) = ((j + 1 : Nat) : Int) by have := HF.out.2; unfold wrap64; omega)
      obtain ⟨b2, o2, rfl, hc⟩ := HX.out (by omega)
      obtain ⟨u, k0, ku, k1, k2, k3, k4⟩ := (hc j hlt).keep (Below.keeps hb)
      have htk : (l.take (j + 1)).any p = p l[j] := by rw [← List.take_append_getElem hlt, List.any_append, HB.out.1]; simp
      have HT := Lib.hid (And.intro htk (fun h : p l[j] = true => (List.any_eq_true.2 ⟨_, List.getElem_mem hlt, h⟩ : l.any p = true)))
      have HCL := Lib.hid (fun W (hu : RdU W u (pti l[j].p)) (hb : Below w.heap.size w W) => HF.out.1 l[j] (List.getElem_mem hlt) u W hu hb)
      have HU := Lib.hid ku
      have hlb := World.block_lt_of_cell? wr _ k0
      obtain ⟨Au, cu, rfl, _⟩ := RdU.point ku
      generalize l[j] = c at *
      clear hc htk hb ku
      cases hp : p c with
      | true =>
        rw [hp] at HT HCL
        go_wp2_with fail
        refine (HCL.out _ (HU.out.below (by repeat (first | exact Below.refl _ _ | (refine Below.drew ?_) | (refine below_drewN' ?_ _) | (refine below_alloc' ?_ _) | (refine Below.setCell ?_ (by first | exact Nat.le_refl _ | (simp; done) | (simp; omega)) _)))) (HB.out.2.trans ((show Below wr.heap.size wr _ from (by repeat (first | exact Below.refl _ _ | (refine Below.drew ?_) | (refine below_drewN' ?_ _) | (refine below_alloc' ?_ _) | (refine Below.setCell ?_ (by first | exact Nat.le_refl _ | (simp; done) | (simp; omega)) _)))).mono HB.out.2.size))).mono ?_
        rintro e w2 ⟨rfl, hb2⟩
        have HF2 := Lib.hid (HB.out.2.trans ((below_trans (by repeat (first | exact Below.refl _ _ | (refine Below.drew ?_) | (refine below_drewN' ?_ _) | (refine below_alloc' ?_ _) | (refine Below.setCell ?_ (by first | exact Nat.le_refl _ | (simp; done) | (simp; omega)) _))) hb2).mono HB.out.2.size))
        clear hb2
        go_wp2_with fail
        go_ret
        exact ⟨_, rfl, by rw [HT.out.2 (by first | exact rfl | trivial)]; simp, HF2.out⟩
      | false =>
        rw [hp] at HT HCL
        go_wp2_with fail
        refine (HCL.out _ (HU.out.below (by repeat (first | exact Below.refl _ _ | (refine Below.drew ?_) | (refine below_drewN' ?_ _) | (refine below_alloc' ?_ _) | (refine Below.setCell ?_ (by first | exact Nat.le_refl _ | (simp; done) | (simp; omega)) _)))) (HB.out.2.trans ((show Below wr.heap.size wr _ from (by repeat (first | exact Below.refl _ _ | (refine Below.drew ?_) | (refine below_drewN' ?_ _) | (refine below_alloc' ?_ _) | (refine Below.setCell ?_ (by first | exact Nat.le_refl _ | (simp; done) | (simp; omega)) _)))).mono HB.out.2.size))).mono ?_
        rintro e w2 ⟨rfl, hb2⟩
        have HF2 := Lib.hid (HB.out.2.trans ((below_trans (by repeat (first | exact Below.refl _ _ | (refine Below.drew ?_) | (refine below_drewN' ?_ _) | (refine below_alloc' ?_ _) | (refine Below.setCell ?_ (by first | exact Nat.le_refl _ | (simp; done) | (simp; omega)) _))) hb2).mono HB.out.2.size))
        clear hb2
        go_wp2_with fail
        go_roundw
        case rel => exact ⟨j + 1, by omega, (by first | rw [HW.out] | rfl | simp), HT.out.1, HF2.out⟩
        case measure => (first | (rw [intOf_of' HW.out, intOf_of' rfl]; omega) | (simp [intOf]; omega) | (simp [intOf] <;> omega))
    · have h3 : ¬ (j : Int) < (l.length : Int) := by omega
      have e : l.take j = l := List.take_of_length_le (by omega)
      rw [e] at HB
      clear hb
      go_wp2_with fail
      go_ret
      exact ⟨-1, rfl, by rw [HB.out.1]; rfl, HB.out.2⟩
theorem cContains_any (w : World) (f : FuncId) (cb : Array Value) (l : List Ch) (v : Value) (p : Ch → Bool) (hl : RdC w v l) (hn : l.length ≤ 1000) (hf : TellF w f cb l p)
    (hent : ∀ (args : Array Value) (w : World), (callFunc f args).run Tryz.prog w = .ok (.enter f args) w) : Calls Tryz.prog 214 #[v, .func (.func f) #[] cb] w fun e w' => e = .returned (.bool (l.any p)) ∧ Below w.heap.size w w' := by
  have HI := Lib.hid (cIndex_any w f cb l v p hl hn hf hent)
  obtain ⟨A, cc, rfl, hx⟩ := hl
  clear hx hf hn hent
  go_enter Tryz.func214, Tryz.ntmps214
  go_wp2_with fail
  refine HI.out.mono ?_
  rintro e w2 ⟨i, rfl, hi, hb⟩
  have HB := Lib.hid (And.intro hi hb)
  clear hi hb
  go_wp2_with fail
  go_ret
  exact ⟨by rw [← HB.out.1]; rfl, HB.out.2⟩
/-- the closure of edit.fits -/
theorem fits1_any (w : World) (B t k : Nat) (in_ : List En) (c : Ch) (u : Value) (hB : w.cell? ⟨B, 0, none⟩ = some (.pointer (some ⟨t, 0, none⟩))) (ht : TrR w t k in_) (hu : RdU w u (pti c.p)) (hl : c.p.length = k) (ho : ∀ x ∈ c.p, x < 2 ^ 64) :
    Calls Tryz.prog 215 (#[.agg #[u, .bool c.had, .bool c.has, .int .u64 (c.old : Nat), .int .u64 (c.new : Nat)]] ++ #[.pointer (some ⟨B, 0, none⟩)]) w fun e w' => e = .returned (.bool (!fitC1 in_ c)) ∧ Below w.heap.size w w' := by
  have HG := Lib.hid (fun w' (hb : Below w.heap.size w w') => tget_any w' t k c.p in_ u (ht.bel hb) (hu.below hb) hl ho)
  have hlb := World.block_lt_of_cell? w _ hB
  have HFC := Lib.hid (show fitC1 in_ c = ((getE in_ c.p).isSome == c.had && decide ((getE in_ c.p).getD 0 = c.old)) from rfl)
  obtain ⟨Au, cu, rfl, _⟩ := RdU.point hu
  obtain ⟨g, hg⟩ : ∃ g, getE in_ c.p = g := ⟨_, rfl⟩
  rw [hg] at HG HFC
  clear ht hu hl ho hg
  obtain ⟨p, had, has, old, new⟩ := c
  simp only at *
  obtain ⟨gs, hgs⟩ : ∃ gs, g.isSome = gs := ⟨_, rfl⟩
  obtain ⟨gv, hgv⟩ : ∃ gv, g.getD 0 = gv := ⟨_, rfl⟩
  rw [hgs, hgv] at HFC HG
  have hz0 : ((gv : Int) != (old : Int)) = !decide (gv = old) := by
    by_cases h : gv = old
    · simp [h]
    · simp [h]; omega
  obtain ⟨z, hz⟩ : ∃ z, ((gv : Int) != (old : Int)) = z := ⟨_, rfl⟩
  rw [hz] at hz0
  have HZ := Lib.hid hz0
  clear hgs hgv hz0
  cases gs <;> cases had
  · go_enter Tryz.func215, Tryz.ntmps215
    go_wp2_with fail
    refine (HG.out _ (by repeat (first | exact Below.refl _ _ | (refine Below.drew ?_) | (refine below_drewN' ?_ _) | (refine below_alloc' ?_ _) | (refine Below.setCell ?_ (by first | exact Nat.le_refl _ | (simp; done) | (simp; omega)) _)))).mono ?_
    rintro e w2 ⟨rfl, hb2⟩
    have hblk := (hb2.block w.heap.size (by simp)).trans (alloc_blk _ _)
    have k1 : w2.cell? ⟨w.heap.size, 1, none⟩ = some (.bool false) := by simp [World.cell?, hblk]
    have k3 : w2.cell? ⟨w.heap.size, 3, none⟩ = some (.int .u64 (old : Nat)) := by simp [World.cell?, hblk]
    have hl2 := kr_lt hblk
    have HF2 := Lib.hid (show Below w.heap.size w w2 from below_trans (by repeat (first | exact Below.refl _ _ | (refine Below.drew ?_) | (refine below_drewN' ?_ _) | (refine below_alloc' ?_ _) | (refine Below.setCell ?_ (by first | exact Nat.le_refl _ | (simp; done) | (simp; omega)) _))) hb2)
    clear hb2 hblk
    go_wp2_with fail
    go_ret
    exact ⟨by rw [HFC.out]; simp [HZ.out], HF2.out⟩
  · go_enter Tryz.func215, Tryz.ntmps215
    go_wp2_with fail
    refine (HG.out _ (by repeat (first | exact Below.refl _ _ | (refine Below.drew ?_) | (refine below_drewN' ?_ _) | (refine below_alloc' ?_ _) | (refine Below.setCell ?_ (by first | exact Nat.le_refl _ | (simp; done) | (simp; omega)) _)))).mono ?_
    rintro e w2 ⟨rfl, hb2⟩
    have hblk := (hb2.block w.heap.size (by simp)).trans (alloc_blk _ _)
    have k1 : w2.cell? ⟨w.heap.size, 1, none⟩ = some (.bool true) := by simp [World.cell?, hblk]
    have k3 : w2.cell? ⟨w.heap.size, 3, none⟩ = some (.int .u64 (old : Nat)) := by simp [World.cell?, hblk]
    have hl2 := kr_lt hblk
    have HF2 := Lib.hid (show Below w.heap.size w w2 from below_trans (by repeat (first | exact Below.refl _ _ | (refine Below.drew ?_) | (refine below_drewN' ?_ _) | (refine below_alloc' ?_ _) | (refine Below.setCell ?_ (by first | exact Nat.le_refl _ | (simp; done) | (simp; omega)) _))) hb2)
    clear hb2 hblk
    go_wp2_with fail
    go_ret
    exact ⟨by rw [HFC.out]; simp [HZ.out], HF2.out⟩
  · go_enter Tryz.func215, Tryz.ntmps215
    go_wp2_with fail
    refine (HG.out _ (by repeat (first | exact Below.refl _ _ | (refine Below.drew ?_) | (refine below_drewN' ?_ _) | (refine below_alloc' ?_ _) | (refine Below.setCell ?_ (by first | exact Nat.le_refl _ | (simp; done) | (simp; omega)) _)))).mono ?_
    rintro e w2 ⟨rfl, hb2⟩
    have hblk := (hb2.block w.heap.size (by simp)).trans (alloc_blk _ _)
    have k1 : w2.cell? ⟨w.heap.size, 1, none⟩ = some (.bool false) := by simp [World.cell?, hblk]
    have k3 : w2.cell? ⟨w.heap.size, 3, none⟩ = some (.int .u64 (old : Nat)) := by simp [World.cell?, hblk]
    have hl2 := kr_lt hblk
    have HF2 := Lib.hid (show Below w.heap.size w w2 from below_trans (by repeat (first | exact Below.refl _ _ | (refine Below.drew ?_) | (refine below_drewN' ?_ _) | (refine below_alloc' ?_ _) | (refine Below.setCell ?_ (by first | exact Nat.le_refl _ | (simp; done) | (simp; omega)) _))) hb2)
    clear hb2 hblk
    go_wp2_with fail
    go_ret
    exact ⟨by rw [HFC.out]; simp [HZ.out], HF2.out⟩
  · go_enter Tryz.func215, Tryz.ntmps215
    go_wp2_with fail
    refine (HG.out _ (by repeat (first | exact Below.refl _ _ | (refine Below.drew ?_) | (refine below_drewN' ?_ _) | (refine below_alloc' ?_ _) | (refine Below.setCell ?_ (by first | exact Nat.le_refl _ | (simp; done) | (simp; omega)) _)))).mono ?_
    rintro e w2 ⟨rfl, hb2⟩
    have hblk := (hb2.block w.heap.size (by simp)).trans (alloc_blk _ _)
    have k1 : w2.cell? ⟨w.heap.size, 1, none⟩ = some (.bool true) := by simp [World.cell?, hblk]
    have k3 : w2.cell? ⟨w.heap.size, 3, none⟩ = some (.int .u64 (old : Nat)) := by simp [World.cell?, hblk]
    have hl2 := kr_lt hblk
    have HF2 := Lib.hid (show Below w.heap.size w w2 from below_trans (by repeat (first | exact Below.refl _ _ | (refine Below.drew ?_) | (refine below_drewN' ?_ _) | (refine below_alloc' ?_ _) | (refine Below.setCell ?_ (by first | exact Nat.le_refl _ | (simp; done) | (simp; omega)) _))) hb2)
    clear hb2 hblk
    go_wp2_with fail
    go_ret
    exact ⟨by rw [HFC.out]; simp [HZ.out], HF2.out⟩
theorem efits_any (w : World) (t k : Nat) (in_ : List En) (l : List Ch) (v : Value) (ht : TrR w t k in_) (hl : RdC w v l) (hn : l.length ≤ 1000) (hk : ∀ c ∈ l, c.p.length = k) (ho : OkC l) :
    Calls Tryz.prog 155 #[.pointer (some ⟨t, 0, none⟩), v] w fun e w' => e = .returned (.bool (fitsL in_ l)) ∧ Below w.heap.size w w' := by
  have HC := Lib.hid (fun w' (B : Nat) (hb : Below w.heap.size w w') (hB : w'.cell? ⟨B, 0, none⟩ = some (.pointer (some ⟨t, 0, none⟩))) =>
    cContains_any w' 215 #[.pointer (some ⟨B, 0, none⟩)] l v (fun c => !fitC1 in_ c) (hl.below hb) hn (fun c hc u w2 hu hb2 => fits1_any w2 B t k in_ c u (Below.keeps hb2 _ _ hB) (ht.bel (hb.trans (hb2.mono hb.size))) hu (hk c hc) (ho c hc)) (enters_lit' Tryz.func215 (by kernel_rfl) (by kernel_rfl)))
  have HFL := Lib.hid (show fitsL in_ l = !(l.any fun c => !fitC1 in_ c) from by
    unfold fitsL
    rw [Bool.eq_iff_iff, List.all_eq_true]
    simp)
  have hmf : ∀ (fn : Fn) (first cap : Array Value) (w : World), (Instr.makeFunc fn first cap).run Tryz.prog w = .ok (.func fn first cap) w := fun _ _ _ _ => rfl
  obtain ⟨A, cc, rfl, hx⟩ := hl
  clear hx hn hk ho ht
  go_enter Tryz.func155, Tryz.ntmps155
  go_wp2_with fail
  refine (HC.out _ w.heap.size (by repeat (first | exact Below.refl _ _ | (refine Below.drew ?_) | (refine below_drewN' ?_ _) | (refine below_alloc' ?_ _) | (refine Below.setCell ?_ (by first | exact Nat.le_refl _ | (simp; done) | (simp; omega)) _))) (by simp [go_sem])).mono ?_
  rintro e w2 ⟨rfl, hb2⟩
  have HF2 := Lib.hid (show Below w.heap.size w w2 from below_trans (by repeat (first | exact Below.refl _ _ | (refine Below.drew ?_) | (refine below_drewN' ?_ _) | (refine below_alloc' ?_ _) | (refine Below.setCell ?_ (by first | exact Nat.le_refl _ | (simp; done) | (simp; omega)) _))) hb2)
  clear hb2
  go_wp2_with fail
  go_ret
  exact ⟨by rw [HFL.out]; rfl, HF2.out⟩
theorem echeck_any (w : World) (t k : Nat) (in_ : List En) (l : List Ch) (v : Value) (ht : TrR w t k in_) (hl : RdC w v l) (hn : l.length ≤ 1000) (ho : OkC l) :
    Calls Tryz.prog 154 #[.pointer (some ⟨t, 0, none⟩), v] w fun e w' => e = .returned (.int .i64 (if rightL k l then 0 else 9)) ∧ Below w.heap.size w w' := by
  have HK := tk_any w t k ht.c0
  have HR := Lib.hid (fun w' (hb : Below w.heap.size w w') => eRight_any (k : Nat) l v w' (hl.below hb) hn ho)
  obtain ⟨A, cc, rfl, hx⟩ := hl
  clear hx hn ho ht
  generalize rightL (k : Int) l = r at *
  cases r
  all_goals
    go_enter Tryz.func154, Tryz.ntmps154
    go_wp2_with fail
    refine HK.mono ?_
    rintro e w2 ⟨rfl, hw⟩
    obtain rfl := hw.symm
    clear hw
    go_wp2_with fail
    refine (HR.out _ (by repeat (first | exact Below.refl _ _ | (refine Below.drew ?_) | (refine below_drewN' ?_ _) | (refine below_alloc' ?_ _) | (refine Below.setCell ?_ (by first | exact Nat.le_refl _ | (simp; done) | (simp; omega)) _)))).mono ?_
    rintro e w2 ⟨rfl, hb2⟩
    have HF2 := Lib.hid (show Below w.heap.size w w2 from below_trans (by repeat (first | exact Below.refl _ _ | (refine Below.drew ?_) | (refine below_drewN' ?_ _) | (refine below_alloc' ?_ _) | (refine Below.setCell ?_ (by first | exact Nat.le_refl _ | (simp; done) | (simp; omega)) _))) hb2)
    clear hb2
    go_wp2_with fail
    go_ret
    exact ⟨rfl, HF2.out⟩
/-- a right list's points -/
theorem right_pts {k : Nat} {l : List Ch} (ho : OkC l) (h : rightL k l = true) : Rt k l := by
  obtain ⟨n, h1, _, _, h2⟩ := rightL_rt ho h
  obtain rfl : k = n := by omega
  exact h2

































end Go.Proofs.YtdkomhmciihkiaaGreat
/-! FitD -/
namespace Go.Proofs.YtdkomhmciihkiaaGreat
open Go.RowKit
set_option linter.unusedVariables false
set_option linter.unusedSimpArgs false
set_option maxRecDepth 100000

theorem doL_append (e : List En) (a b : List Ch) : doL e (a ++ b) = doL (doL e a) b := by
  induction a generalizing e with
  | nil => rfl
  | cons c a ih => exact ih _
def DoP (W : World) (t k : Nat) (in_ : List En) (l : List Ch) (e : Ending) (w' : World) : Prop := Below W.heap.size W w' ∧
  ((rightL k l = false ∧ e = .returned (.tuple #[.pointer none, .int .i64 9])) ∨ (rightL k l = true ∧ fitsL in_ l = false ∧ e = .returned (.tuple #[.pointer none, .int .i64 7])) ∨
   (rightL k l = true ∧ fitsL in_ l = true ∧ ∃ g, e = .returned (.tuple #[.pointer (some ⟨g, 0, none⟩), .int .i64 0]) ∧ TrR w' g k (doL in_ l) ∧ (l = [] → g = t) ∧ (l ≠ [] → W.heap.size ≤ g)))
/-- what stands ahead of the change j -/
structure DoI (w wr : World) (t k : Nat) (in_ : List En) (l : List Ch) (j g : Nat) : Prop where
  jl : j ≤ l.length
  tr : TrR wr g k (doL in_ (l.take j))
  z : j = 0 → g = t
  s : 0 < j → w.heap.size ≤ g
  fit : fitsL (doL in_ (l.take j)) (l.drop j) = true
  bel : Below w.heap.size w wr
theorem Rt.drop {k : Nat} {l : List Ch} (h : Rt k l) (j : Nat) : Rt k (l.drop j) :=
  ⟨fun c hc => h.len c (List.mem_of_mem_drop hc), fun c hc => h.right c (List.mem_of_mem_drop hc), List.Pairwise.sublist (List.drop_sublist j l) h.asc, fun c hc => h.ok c (List.mem_of_mem_drop hc)⟩
theorem do_take (in_ : List En) (l : List Ch) (j : Nat) (h : j < l.length) : doL in_ (l.take (j + 1)) = if l[j].has then insE l[j].p l[j].new (doL in_ (l.take j)) else delE l[j].p (doL in_ (l.take j)) := by
  rw [← List.take_append_getElem h, doL_append]; rfl
theorem DoI.head {w wr : World} {t k : Nat} {in_ : List En} {l : List Ch} {j g : Nat} (h : DoI w wr t k in_ l j g) (hr : Rt k l) (hlt : j < l.length) :
    (getE (doL in_ (l.take j)) l[j].p).isSome = l[j].had ∧ (getE (doL in_ (l.take j)) l[j].p).getD 0 = l[j].old ∧ fitsL (doL in_ (l.take (j + 1))) (l.drop (j + 1)) = true := by
  have hd := h.fit
  have hrd := hr.drop j
  rw [← List.getElem_cons_drop hlt] at hd hrd
  obtain ⟨f1, f2⟩ := fits_get hd (List.mem_cons_self ..)
  refine ⟨f1, f2, ?_⟩
  rw [do_take in_ l j hlt]
  exact fits_tail h.tr.et hrd hd
set_option maxHeartbeats 2000000 in
theorem eDo_any (w : World) (t k : Nat) (in_ : List En) (l : List Ch) (v : Value) (ht : TrR w t k in_) (hl : RdC w v l) (hn : l.length ≤ 1000) (ho : OkC l) (hv : ∀ c ∈ l, c.new < 2 ^ 64) :
    Calls Tryz.prog 96 #[.pointer (some ⟨t, 0, none⟩), v] w fun e w' => DoP w t k in_ l e w' := by
  have HC := Lib.hid (echeck_any w t k in_ l v ht hl hn ho)
  have HF := Lib.hid (fun w' (hb : Below w.heap.size w w') (h : rightL k l = true) => efits_any w' t k in_ l v (ht.bel hb) (hl.below hb) hn (right_pts ho h).len ho)
  have HRT := Lib.hid (fun h : rightL k l = true => right_pts ho h)
  have HD := Lib.hid (And.intro hn (And.intro hv ht))
  obtain ⟨A, cc, rfl, hx⟩ := hl
  have HX := Lib.hid hx
  clear hx hn ho ht hv
  by_cases hr : rightL k l = true
  · have HDR := Lib.hid (show rightL k l = true from hr)
    replace HRT := Lib.hid (HRT.out hr)
    replace HF := Lib.hid (fun w' hb => HF.out w' hb hr)
    rw [hr] at HC
    clear hr
    by_cases hf : fitsL in_ l = true
    · have HDF := Lib.hid (show fitsL in_ l = true from hf)
      rw [hf] at HF
      clear hf
      go_enter Tryz.func96, Tryz.ntmps96
      go_wp2_with fail
      refine HC.out.mono ?_
      rintro e w2 ⟨rfl, hb2⟩
      have HF2 := Lib.hid hb2
      clear hb2
      go_wp2_with fail
      refine (HF.out _ HF2.out).mono ?_
      rintro e w3 ⟨rfl, hb3⟩
      replace HF2 := Lib.hid (HF2.out.trans (hb3.mono HF2.out.size))
      clear hb3
      go_wp2_with fail
      go_loopw [0, 8, 23] (fun tv _ iv wr => ∃ (j g : Nat), tv = .pointer (some ⟨g, 0, none⟩) ∧ iv = .int .i64 (j : Nat) ∧ DoI w wr t k in_ l j g) (fun _ _ iv _ => l.length - (intOf iv).toNat)
      case atStart => exact ⟨0, t, rfl, rfl, ⟨Nat.zero_le _, HD.out.2.2.bel HF2.out, fun _ => rfl, fun h => absurd h (Nat.lt_irrefl 0), by rw [List.take_zero, List.drop_zero]; exact HDF.out, HF2.out⟩⟩
      case round =>
        obtain ⟨j, g, rfl, rfl, hI⟩ := hrel
        have HI := Lib.hid hI
        by_cases hlt : j < l.length
        · have h3 : (j : Int) < (l.length : Int) := by omega
          have h5 : (0 : Int) ≤ (j : Int) := by omega
          have HW := Lib.hid (show wrap64 ((j : Int) + 1) = ((j + 1 : Nat) : Int) by have := HD.out.1; unfold wrap64; omega)
          obtain ⟨b2, o2, rfl, hc⟩ := HX.out (by omega)
          obtain ⟨u, k0, ku, k1, k2, k3, k4⟩ := (hc j hlt).keep (Below.keeps hI.bel)
          have hmem := List.getElem_mem hlt
          have HH := Lib.hid (hI.head HRT.out hlt)
          have HTK := Lib.hid (do_take in_ l j hlt)
          have HPU := Lib.hid (fun W (hb : Below wr.heap.size wr W) => tput_any W g k l[j].new l[j].p _ u (hI.tr.bel hb) (ku.below hb) (HRT.out.len _ hmem) (HRT.out.ok _ hmem) (HD.out.2.1 _ hmem))
          have HDE := Lib.hid (fun W (hb : Below wr.heap.size wr W) => tdel_any W g k l[j].p _ u (hI.tr.bel hb) (ku.below hb) (HRT.out.len _ hmem) (HRT.out.ok _ hmem))
          have HRI := Lib.hid (right_parts (HRT.out.right _ hmem))
          have hlb := World.block_lt_of_cell? wr _ k0
          obtain ⟨Au, cu, rfl, zz⟩ := RdU.point ku
          generalize hcj : l[j] = c at *
          clear hc hI hmem ku zz hcj
          obtain ⟨p, had, has, old, new⟩ := c
          simp only at *
          cases has with
          | true =>
            go_wp2_with fail
            refine (HPU.out _ (by repeat (first | exact Below.refl _ _ | (refine Below.drew ?_) | (refine below_drewN' ?_ _) | (refine below_alloc' ?_ _) | (refine Below.setCell ?_ (by first | exact Nat.le_refl _ | (simp; done) | (simp; omega)) _)))).mono ?_
            rintro e w4 ⟨g2, rfl, ht2, hb4, hs1, hs2⟩
            have HN := Lib.hid (show DoI w w4 t k in_ l (j + 1) g2 from by
              have hbw : Below wr.heap.size wr w4 := below_trans (by repeat (first | exact Below.refl _ _ | (refine Below.drew ?_) | (refine below_drewN' ?_ _) | (refine below_alloc' ?_ _) | (refine Below.setCell ?_ (by first | exact Nat.le_refl _ | (simp; done) | (simp; omega)) _))) hb4
              refine ⟨by omega, by rw [HTK.out]; exact ht2, fun h => by omega, fun _ => ?_, HH.out.2.2, HI.out.bel.trans (hbw.mono HI.out.bel.size)⟩
              have hne : getE (doL in_ (l.take j)) p ≠ some new := by
                intro h
                have h1 := HH.out.1
                have h2 := HH.out.2.1
                have h4 := HRI.out.2.2.2
                rw [h] at h1 h2
                simp only [Option.isSome_some, Option.getD_some] at h1 h2
                subst h1 h2
                simp at h4
              have := hs2 hne
              have h9 := HI.out.bel.size
              have h8 : wr.heap.size ≤ (wr.alloc (.cells #[.slice Au p.length cu, .bool had, .bool true, .int .u64 (old : Nat), .int .u64 (new : Nat)] 169)).heap.size := by simp
              omega)
            clear ht2 hb4 hs1 hs2
            go_wp2_with fail
            go_roundw
            case rel => exact ⟨j + 1, g2, rfl, (by first | rw [HW.out] | rfl | simp), HN.out⟩
            case measure => (first | (rw [intOf_of' HW.out, intOf_of' rfl]; omega) | (simp [intOf]; omega) | (simp [intOf] <;> omega))
          | false =>
            go_wp2_with fail
            refine (HDE.out _ (by repeat (first | exact Below.refl _ _ | (refine Below.drew ?_) | (refine below_drewN' ?_ _) | (refine below_alloc' ?_ _) | (refine Below.setCell ?_ (by first | exact Nat.le_refl _ | (simp; done) | (simp; omega)) _)))).mono ?_
            rintro e w4 ⟨hb4, hcase⟩
            rcases hcase with ⟨h1, _⟩ | ⟨x, g2, h1, rfl, ht2, hs⟩
            · exact absurd h1 (by
                intro h
                have h1 := HH.out.1
                have h4 := HRI.out.1
                rw [h] at h1
                simp only [Option.isSome_none] at h1
                subst h1
                simp at h4)
            have HN := Lib.hid (show DoI w w4 t k in_ l (j + 1) g2 from by
              have hbw : Below wr.heap.size wr w4 := below_trans (by repeat (first | exact Below.refl _ _ | (refine Below.drew ?_) | (refine below_drewN' ?_ _) | (refine below_alloc' ?_ _) | (refine Below.setCell ?_ (by first | exact Nat.le_refl _ | (simp; done) | (simp; omega)) _))) hb4
              refine ⟨by omega, by rw [HTK.out]; exact ht2, fun h => by omega, fun _ => ?_, HH.out.2.2, HI.out.bel.trans (hbw.mono HI.out.bel.size)⟩
              have h9 := HI.out.bel.size
              have h8 : wr.heap.size ≤ (wr.alloc (.cells #[.slice Au p.length cu, .bool had, .bool false, .int .u64 (old : Nat), .int .u64 (new : Nat)] 169)).heap.size := by simp
              omega)
            clear ht2 hb4 hs h1
            go_wp2_with fail
            go_roundw
            case rel => exact ⟨j + 1, g2, rfl, (by first | rw [HW.out] | rfl | simp), HN.out⟩
            case measure => (first | (rw [intOf_of' HW.out, intOf_of' rfl]; omega) | (simp [intOf]; omega) | (simp [intOf] <;> omega))
        · have h3 : ¬ (j : Int) < (l.length : Int) := by omega
          have HJ := Lib.hid (show j = l.length by have := hI.jl; omega)
          clear hI
          go_wp2_with fail
          go_ret2
          refine ⟨HI.out.bel, .inr (.inr ⟨HDR.out, HDF.out, g, rfl, ?_, fun h => HI.out.z (by rw [HJ.out, h]; rfl), fun h => HI.out.s (by rw [HJ.out]; exact List.length_pos_iff.2 h)⟩)⟩
          have := HI.out.tr
          rw [HJ.out, List.take_length] at this
          exact this
    · have hf' : fitsL in_ l = false := by simpa using hf
      have HDF := Lib.hid (show fitsL in_ l = false from hf')
      rw [hf'] at HF
      clear hf hf'
      go_enter Tryz.func96, Tryz.ntmps96
      go_wp2_with fail
      refine HC.out.mono ?_
      rintro e w2 ⟨rfl, hb2⟩
      have HF2 := Lib.hid hb2
      clear hb2
      go_wp2_with fail
      refine (HF.out _ HF2.out).mono ?_
      rintro e w3 ⟨rfl, hb3⟩
      replace HF2 := Lib.hid (HF2.out.trans (hb3.mono HF2.out.size))
      clear hb3
      go_wp2_with fail
      go_ret2
      exact ⟨HF2.out, .inr (.inl ⟨HDR.out, HDF.out, rfl⟩)⟩
  · have hr' : rightL k l = false := by simpa using hr
    have HDR := Lib.hid (show rightL k l = false from hr')
    rw [hr'] at HC
    clear hr hr'
    go_enter Tryz.func96, Tryz.ntmps96
    go_wp2_with fail
    refine HC.out.mono ?_
    rintro e w2 ⟨rfl, hb2⟩
    have HF2 := Lib.hid hb2
    clear hb2
    go_wp2_with fail
    go_ret2
    exact ⟨HF2.out, .inl ⟨HDR.out, rfl⟩⟩
end Go.Proofs.YtdkomhmciihkiaaGreat
/-! Ent -/
namespace Go.Proofs.YtdkomhmciihkiaaGreat
open Go.RowKit
set_option linter.unusedVariables false

/-- the entry's two cells at block b, from o on -/
def EnAt (w : World) (b o : Nat) (e : En) : Prop :=
  ∃ v, w.cell? ⟨b, o, none⟩ = some v ∧ RdU w v (pti e.p) ∧ w.cell? ⟨b, o + 1, none⟩ = some (.int .u64 (e.v : Nat))
/-- the slice value v reads as the list l of entries -/
def RdE (w : World) (v : Value) (l : List En) : Prop :=
  ∃ A c, v = .slice A l.length c ∧ (l.length ≤ c ∧ c ≤ maxLen ∧ (0 < c → ∃ b o, A = some ⟨b, o, none⟩)) ∧ (0 < l.length → ∃ b o, A = some ⟨b, o, none⟩ ∧ ∀ j (h : j < l.length), EnAt w b (o + j * 2) l[j])
theorem EnAt.keep {w w' : World} {b o : Nat} {c : En} (h : EnAt w b o c) (hk : ∀ a x, w.cell? a = some x → w'.cell? a = some x) : EnAt w' b o c := by
  obtain ⟨v, h0, hv, h1⟩ := h
  exact ⟨v, hk _ _ h0, RdU.keep hv hk, hk _ _ h1⟩
theorem RdE.keep {w w' : World} {v : Value} {l : List En} (h : RdE w v l) (hk : ∀ a x, w.cell? a = some x → w'.cell? a = some x) : RdE w' v l := by
  obtain ⟨A, c, e, hl, h⟩ := h
  exact ⟨A, c, e, hl, fun hp => let ⟨b, o, ha, hc⟩ := h hp; ⟨b, o, ha, fun j hj => (hc j hj).keep hk⟩⟩
theorem RdE.below {w w' : World} {v : Value} {l : List En} (h : RdE w v l) (hb : Below w.heap.size w w') : RdE w' v l := RdE.keep h (Below.keeps hb)
theorem RdE.nil (w : World) (A : Option Addr) (c : Nat) (h : c ≤ maxLen) (h0 : 0 < c → ∃ b o, A = some ⟨b, o, none⟩) : RdE w (.slice A 0 c) [] := ⟨A, c, rfl, ⟨Nat.zero_le _, h, h0⟩, fun h => absurd h (by simp)⟩
/-- the cells cs hold the entries l, their points as they stand in w -/
def CellsL (w : World) : List En → List Value → Prop
  | [], cs => cs = []
  | e :: l, cs => ∃ u ds, cs = u :: .int .u64 (e.v : Nat) :: ds ∧ RdU w u (pti e.p) ∧ CellsL w l ds
def CellsE (w : World) (cs : List Value) (l : List En) : Prop := CellsL w l cs
theorem CellsE.nil (w : World) : CellsE w [] [] := rfl
theorem CellsE.length {w : World} {cs : List Value} {l : List En} (h : CellsE w cs l) : cs.length = l.length * 2 := by
  induction l generalizing cs with
  | nil => obtain rfl : cs = [] := h; rfl
  | cons e l ih => obtain ⟨u, ds, rfl, _, h⟩ := h; have := ih h; simp; omega
theorem CellsE.append {w : World} {cs ds : List Value} {l m : List En} (h : CellsE w cs l) (k : CellsE w ds m) : CellsE w (cs ++ ds) (l ++ m) := by
  induction l generalizing cs with
  | nil => obtain rfl : cs = [] := h; exact k
  | cons e l ih => obtain ⟨u, ds, rfl, hu, h⟩ := h; exact ⟨u, _, rfl, hu, ih h⟩
theorem CellsE.one {w : World} {u : Value} {p : List Nat} (v : Nat) (h : RdU w u (pti p)) : CellsE w [u, .int .u64 v] [⟨p, v⟩] := ⟨u, [], rfl, h, rfl⟩
theorem CellsE.keep {w w' : World} {cs : List Value} {l : List En} (h : CellsE w cs l) (hk : ∀ a x, w.cell? a = some x → w'.cell? a = some x) : CellsE w' cs l := by
  induction l generalizing cs with
  | nil => exact h
  | cons e l ih => obtain ⟨u, ds, rfl, hu, h⟩ := h; exact ⟨u, ds, rfl, hu.keep hk, ih h⟩
theorem CellsE.oneCell {w : World} {cs : List Value} {l : List En} (h : CellsE w cs l) : ∀ u ∈ cs, u.oneCell' = true := by
  induction l generalizing cs with
  | nil => obtain rfl : cs = [] := h; intro u hu; simp at hu
  | cons e l ih =>
    obtain ⟨u, ds, rfl, hu, h⟩ := h
    intro y hy
    rcases List.mem_cons.1 hy with rfl | hy
    · exact RdU.one' hu
    · rcases List.mem_cons.1 hy with rfl | hy
      · rfl
      · exact ih h y hy
theorem CellsE.at {w w' : World} {cs : List Value} {l : List En} (h : CellsE w cs l) (hk : ∀ a x, w.cell? a = some x → w'.cell? a = some x) {b o : Nat} (hc : ∀ j (h : j < cs.length), w'.cell? ⟨b, o + j, none⟩ = some cs[j]) :
    ∀ j (h : j < l.length), EnAt w' b (o + j * 2) l[j] := by
  induction l generalizing cs o with
  | nil => intro j hj; simp at hj
  | cons e l ih =>
    obtain ⟨u, ds, rfl, hu, h⟩ := h
    · intro j hj
      cases j with
      | zero =>
        have c0 := hc 0 (by simp)
        have c1 := hc 1 (by simp)
        simp only [List.getElem_cons_zero, List.getElem_cons_succ, Nat.add_zero] at c0 c1
        simp only [List.getElem_cons_zero, Nat.zero_mul, Nat.add_zero]
        exact ⟨u, c0, hu.keep hk, c1⟩
      | succ j =>
        have := ih h (o := o + 2) (fun i hi => by
          have := hc (i + 2) (by simpa using hi)
          simp only [List.getElem_cons_succ] at this
          rw [show o + 2 + i = o + (i + 2) by omega]; exact this) j (by simpa using hj)
        simp only [List.getElem_cons_succ]
        rw [show o + (j + 1) * 2 = o + 2 + j * 2 by omega]; exact this
/-- v is a row of the call's own (the call began in W) that holds the entries l -/
def OwnE (W w : World) (v : Value) (l : List En) : Prop := ∃ cs, w.ownsRow W.heap.size 35 2 v l.length cs ∧ CellsE W cs l
theorem OwnE.rd {W w : World} {v : Value} {l : List En} (h : OwnE W w v l) (hb : Below W.heap.size W w) : RdE w v l := by
  obtain ⟨cs, ho, hc⟩ := h
  obtain ⟨h1, h2⟩ := ho
  rcases h2 with ⟨rfl, h0⟩ | ⟨g, cap, cur, rfl, hg, hh, hcap, hm, hs, ht⟩
  · exact ⟨none, 0, by rw [h0], ⟨by omega, Nat.zero_le _, fun h => absurd h (by omega)⟩, fun hp => absurd hp (by omega)⟩
  · refine ⟨_, _, rfl, ⟨hcap, hm, fun h => ⟨g, 0, rfl⟩⟩, fun hp => ⟨g, 0, rfl, hc.at (Below.keeps hb) fun j hj => ?_⟩⟩
    have h3 : cs[j]? = some cs[j] := List.getElem?_eq_getElem hj
    have h4 : j < l.length * 2 := by omega
    rw [← h3, ← ht, List.getElem?_take_of_lt h4, World.cell?]
    simp only [hh, Nat.zero_add]
    simp
theorem OwnE.nil (W w : World) : OwnE W w (.slice none 0 0) [] := ⟨[], World.ownsRow_nil _ _ _ _, rfl⟩
theorem entryInfo : (Tryz.prog.info? 35).map (fun i => (i.zero, i.size, i.bytes)) = some (some (.agg #[.slice none 0 0, .int .u64 0]), 2, 32) := by kernel_rfl
/-- entries to be appended -/
def SrcE (W w : World) (x : Value) (m : List En) : Prop := ∃ cs, CellsE W cs m ∧ Src w 2 m.length x cs
theorem SrcE.one {W w : World} {b c : Nat} {u : Value} {p : List Nat} {v : Nat} (h0 : w.cell? ⟨b, 0, none⟩ = some u) (hu : RdU W u (pti p)) (h1 : w.cell? ⟨b, 1, none⟩ = some (.int .u64 v)) : SrcE W w (.slice (some ⟨b, 0, none⟩) 1 c) [⟨p, v⟩] :=
  ⟨[u, .int .u64 v], CellsE.one v hu, rfl, (CellsE.one v hu).oneCell, _, c, rfl, (fun h => by cases h), fun ad had j x hj => by
    injection had with had; subst had
    match j with
    | 0 => simp at hj; subst hj; simpa [Addr.add] using h0
    | 1 => simp at hj; subst hj; simpa [Addr.add] using h1
    | j + 2 => simp at hj⟩
/-- reslicing -/
theorem cut_addr {A : Option Addr} {b o k c s : Nat} (h : A = some ⟨b, o, none⟩) (hk : k < c) : (if c = k then A else A.map (·.add (k * s))) = some ⟨b, o + k * s, none⟩ := by
  rw [if_neg (by omega), h]
  simp only [Option.map_some, Addr.add]
  split
  · rename_i h0; rw [h0]; rfl
  · rfl
theorem RdE.drop {w : World} {A : Option Addr} {c : Nat} {l : List En} (h : RdE w (.slice A l.length c) l) (k : Nat) (hk : k ≤ l.length) :
    RdE w (.slice (if c = k then A else A.map (·.add (k * 2))) (l.length - k) (c - k)) (l.drop k) := by
  obtain ⟨A', c', e, ⟨h1, h2, h3⟩, hm⟩ := h
  injection e with e1 _ e2
  subst e1 e2
  refine ⟨_, _, by rw [List.length_drop], ⟨by rw [List.length_drop]; omega, by omega, fun h => ?_⟩, fun hp => ?_⟩
  · obtain ⟨b, o, ha⟩ := h3 (by omega)
    exact ⟨b, o + k * 2, cut_addr ha (by omega)⟩
  · rw [List.length_drop] at hp
    obtain ⟨b, o, ha, hc⟩ := hm (by omega)
    refine ⟨b, o + k * 2, cut_addr ha (by omega), fun j hj => ?_⟩
    rw [List.length_drop] at hj
    have := hc (k + j) (by omega)
    rw [List.getElem_drop, show o + k * 2 + j * 2 = o + (k + j) * 2 by omega]
    exact this
theorem RdE.take {w : World} {A : Option Addr} {c : Nat} {l : List En} (h : RdE w (.slice A l.length c) l) (k : Nat) (hk : k ≤ l.length) : RdE w (.slice A k c) (l.take k) := by
  obtain ⟨A', c', e, ⟨h1, h2, h3⟩, hm⟩ := h
  injection e with e1 _ e2
  subst e1 e2
  refine ⟨A, c, by rw [List.length_take, Nat.min_eq_left hk], ⟨by rw [List.length_take]; omega, h2, h3⟩, fun hp => ?_⟩
  rw [List.length_take] at hp
  obtain ⟨b, o, ha, hc⟩ := hm (by omega)
  refine ⟨b, o, ha, fun j hj => ?_⟩
  rw [List.length_take] at hj
  have := hc j (by omega)
  rw [List.getElem_take]
  exact this

theorem OwnE.alloc {W w : World} {v : Value} {l : List En} (h : OwnE W w v l) (o : Obj) : OwnE W (w.alloc o) v l := let ⟨cs, h1, h2⟩ := h; ⟨cs, h1.alloc o, h2⟩
theorem OwnE.drew {W w : World} {v : Value} {l : List En} (h : OwnE W w v l) : OwnE W w.drew v l := h
theorem OwnE.drewN {W w : World} {v : Value} {l : List En} (h : OwnE W w v l) (n : Nat) : OwnE W (w.drewN n) v l := h
theorem OwnE.below {W w w' : World} {v : Value} {l : List En} (h : OwnE W w v l) (hb : Below w.heap.size w w') : OwnE W w' v l := by
  obtain ⟨cs, ⟨h1, h2⟩, h3⟩ := h
  refine ⟨cs, ⟨h1, ?_⟩, h3⟩
  rcases h2 with h2 | ⟨g, cap, cur, q1, q2, q3, q4⟩
  · exact .inl h2
  · exact .inr ⟨g, cap, cur, q1, q2, (hb.block g (Array.getElem?_eq_some_iff.1 q3).1).trans q3, q4⟩
end Go.Proofs.YtdkomhmciihkiaaGreat
/-! Ref06 -/
namespace Go.Proofs.YtdkomhmciihkiaaGreat
open Go.RowKit
set_option linter.unusedVariables false

/-- the lists that are walked here -/
structure EtS (k : Nat) (l : List En) : Prop where
  et : Et k l
  k40 : k ≤ 40
  short : l.length ≤ 1000
end Go.Proofs.YtdkomhmciihkiaaGreat
/-! Ref06b -/
namespace Go.Proofs.YtdkomhmciihkiaaGreat
open Go.RowKit
set_option linter.unusedVariables false
set_option linter.unusedSimpArgs false

theorem EtS.del {k : Nat} {l : List En} (h : EtS k l) (p : List Nat) : EtS k (delE p l) := ⟨h.et.del p, h.k40, Nat.le_trans Od.del_length h.short⟩
end Go.Proofs.YtdkomhmciihkiaaGreat
/-! TrF -/
namespace Go
theorem getD_bool {t : Array Value} {d : Nat} {b : Bool} (h : t.getD d undef = .bool b) : t[d]? = some (.bool b) := by
  rw [Array.getD_eq_getD_getElem?] at h
  cases hx : t[d]? with
  | none => rw [hx] at h; cases h
  | some v => rw [hx] at h; simp only [Option.getD_some] at h; rw [h]
end Go
namespace Go.Proofs.YtdkomhmciihkiaaGreat
open Go.RowKit
set_option linter.unusedVariables false
set_option linter.unusedSimpArgs false

/-- an act -/
structure Ac where
  del : Bool
  p : List Nat
  v : Nat
deriving Inhabited
/-- what an act makes of a list -/
def stepL (k : Nat) (l : List En) (a : Ac) : List En := if a.p.length = k then (if a.del then delE a.p l else insE a.p a.v l) else l
def Ac.Ok (a : Ac) : Prop := a.p.length ≤ 40 ∧ (∀ c ∈ a.p, c < 2 ^ 64) ∧ a.v < 2 ^ 64
theorem Et.step {k : Nat} {l : List En} (h : Et k l) (a : Ac) (ha : a.Ok) : Et k (stepL k l a) := by
  unfold stepL
  split
  · split
    · exact h.del _
    · exact h.ins _ (by assumption) ha.2.1
  · exact h
theorem del_absent {l : List En} {p : List Nat} (h : getE l p = none) : delE p l = l := by
  unfold getE at h
  have h' : Od.look En.key l (pkey p) = none := by
    cases e : Od.look En.key l (pkey p) with
    | none => rfl
    | some x => rw [e] at h; cases h
  have h2 := Od.look_none (key := En.key) h'
  clear h h'
  unfold delE
  induction l with
  | nil => rfl
  | cons x l ih => unfold Od.del; rw [if_neg (h2 x (by simp))]; rw [ih fun y hy => h2 y (by simp [hy])]
set_option maxRecDepth 100000
end Go.Proofs.YtdkomhmciihkiaaGreat
/-! TrG -/
namespace Go.Proofs.YtdkomhmciihkiaaGreat
open Go.RowKit
set_option linter.unusedVariables false
set_option linter.unusedSimpArgs false

/-- an act at a block's offset -/
def AcAt (w : World) (b o : Nat) (a : Ac) : Prop := ∃ u, w.cell? ⟨b, o, none⟩ = some (.bool a.del) ∧ w.cell? ⟨b, o + 1, none⟩ = some u ∧ RdU w u (pti a.p) ∧ w.cell? ⟨b, o + 2, none⟩ = some (.int .u64 (a.v : Nat))
theorem AcAt.keep {w w' : World} {b o : Nat} {a : Ac} (h : AcAt w b o a) (hk : ∀ a x, w.cell? a = some x → w'.cell? a = some x) : AcAt w' b o a := by
  obtain ⟨u, h0, h1, h2, h3⟩ := h
  exact ⟨u, hk _ _ h0, hk _ _ h1, RdU.keep h2 hk, hk _ _ h3⟩
/-- the slice value v reads as the list l of acts -/
def RdA (w : World) (v : Value) (l : List Ac) : Prop :=
  ∃ A c, v = .slice A l.length c ∧ (0 < l.length → ∃ b o, A = some ⟨b, o, none⟩ ∧ ∀ j (h : j < l.length), AcAt w b (o + j * 3) l[j])
theorem RdA.keep {w w' : World} {v : Value} {l : List Ac} (h : RdA w v l) (hk : ∀ a x, w.cell? a = some x → w'.cell? a = some x) : RdA w' v l := by
  obtain ⟨A, c, e, h⟩ := h
  exact ⟨A, c, e, fun hp => let ⟨b, o, ha, hc⟩ := h hp; ⟨b, o, ha, fun j hj => (hc j hj).keep hk⟩⟩
theorem RdA.below {w w' : World} {v : Value} {l : List Ac} (h : RdA w v l) (hb : Below w.heap.size w w') : RdA w' v l := RdA.keep h (Below.keeps hb)
set_option maxRecDepth 100000
end Go.Proofs.YtdkomhmciihkiaaGreat
/-! RefA -/
namespace Go.Proofs.YtdkomhmciihkiaaGreat
open Go.RowKit
set_option linter.unusedVariables false
set_option linter.unusedSimpArgs false

set_option maxRecDepth 100000
end Go.Proofs.YtdkomhmciihkiaaGreat
/-! RefK -/
namespace Go.Proofs.YtdkomhmciihkiaaGreat
open Go.RowKit
set_option linter.unusedVariables false
set_option linter.unusedSimpArgs false

set_option maxRecDepth 100000
/-- a slice of slices of entries is handed back: parts of a list that is read in W -/
def GrpP (W0 W : World) (gs : List (List En)) (w' : World) (v : Value) : Prop := ∃ vs : List Value, OwnV 44 W w' v vs ∧ vs.length = gs.length ∧ ∀ i (h : i < vs.length) (h' : i < gs.length), RdE W0 vs[i] gs[i]
end Go.Proofs.YtdkomhmciihkiaaGreat
/-! RefL -/
namespace Go.Proofs.YtdkomhmciihkiaaGreat
open Go.RowKit
set_option linter.unusedVariables false
set_option linter.unusedSimpArgs false

theorem GrpP.below {W0 W w w' : World} {gs : List (List En)} {v : Value} (h : GrpP W0 W gs w v) (hb : Below w.heap.size w w') : GrpP W0 W gs w' v := let ⟨vs, h1, h2⟩ := h; ⟨vs, h1.below hb, h2⟩
theorem GrpP.snoc {W0 W w : World} {gs : List (List En)} {v : Value} {vs : List Value} {x : Value} {g : List En} (h : OwnV 44 W w v (vs ++ [x])) (hl : vs.length = gs.length) (hs : ∀ i (h : i < vs.length) (h' : i < gs.length), RdE W0 vs[i] gs[i]) (hx : RdE W0 x g) : GrpP W0 W (gs ++ [g]) w v := by
  refine ⟨vs ++ [x], h, by simp [hl], fun i h1 h2 => ?_⟩
  by_cases hi : i < vs.length
  · rw [List.getElem_append_left hi, List.getElem_append_left (by omega)]; exact hs i hi (by omega)
  · have : i = vs.length := by simp at h1; omega
    subst this
    rw [List.getElem_append_right (Nat.le_refl _), List.getElem_append_right (by omega)]
    simp [hl]; exact hx
set_option maxRecDepth 100000
end Go.Proofs.YtdkomhmciihkiaaGreat
/-! RefS -/
namespace Go.Proofs.YtdkomhmciihkiaaGreat
open Go.RowKit
set_option linter.unusedVariables false
set_option linter.unusedSimpArgs false

/-- a value reads as a shape -/
def ShR (w : World) (x : Value) (s : Sh) : Prop := ∃ u pl, x = .agg #[.int .i64 s.lv, u, pl, .bool s.dense, .int .u64 (s.v : Nat)] ∧ RdU w u (pti s.pre) ∧ Sl w pl (s.pl.map fun (x : Nat) => Value.int .i64 (x : Nat))
theorem ShR.below {w w' : World} {x : Value} {s : Sh} (h : ShR w x s) (hb : Below w.heap.size w w') : ShR w' x s := let ⟨u, pl, h1, h2, h3⟩ := h; ⟨u, pl, h1, h2.below hb, h3.below hb⟩
theorem ShV.rd {W w : World} {s : Sh} {x : Value} (h : ShV W w s x) : ShR w x s := let ⟨u, p9, h1, h2, h3⟩ := h.ex; ⟨u, p9, h1, h2.rd, h3.rd⟩
/-- a shape whose rows are told apart from rows of shapes by their blocks' types, or were there in W0 -/
def ShK (W0 W w : World) (x : Value) (s : Sh) : Prop := ∃ u pl, x = .agg #[.int .i64 s.lv, u, pl, .bool s.dense, .int .u64 (s.v : Nat)] ∧ (RdU W0 u (pti s.pre) ∨ PtNew w u s.pre) ∧ OwnV 3 W w pl (s.pl.map fun (x : Nat) => Value.int .i64 (x : Nat))
theorem ShK.below {W0 W w w' : World} {x : Value} {s : Sh} (h : ShK W0 W w x s) (hb : Below w.heap.size w w') : ShK W0 W w' x s := by
  obtain ⟨u, pl, h1, h2, h3⟩ := h
  exact ⟨u, pl, h1, h2.imp id (·.below hb), h3.below hb⟩
theorem ShK.rd {W0 W w : World} {x : Value} {s : Sh} (h : ShK W0 W w x s) (hb : Below W0.heap.size W0 w) : ShR w x s := by
  obtain ⟨u, pl, h1, h2, h3⟩ := h
  exact ⟨u, pl, h1, h2.elim (·.below hb) (·.rd), h3.rd⟩
theorem ShV.k {W0 W w : World} {s : Sh} {x : Value} (h : ShV W w s x) : ShK W0 W w x s := let ⟨u, p9, h1, h2, h3⟩ := h.ex; ⟨u, p9, h1, .inr h2, h3⟩
theorem Kd.k1 {k n : Nat} {pre : List Nat} {ks : List (Nat × List En)} (h : Kd k n pre ks) : 1 ≤ k := by
  obtain ⟨x, hx, y, hy, hlt, _⟩ := h.ends
  have h1 := h.addr_lt hy
  rcases Nat.eq_zero_or_pos k with rfl | h0
  · simp at h1; omega
  · exact h0
set_option maxRecDepth 100000
end Go.Proofs.YtdkomhmciihkiaaGreat
/-! RefT -/
namespace Go.Proofs.YtdkomhmciihkiaaGreat
open Go.RowKit
set_option linter.unusedVariables false
set_option linter.unusedSimpArgs false
set_option maxRecDepth 100000

theorem OwnV.cellsAt {t : TypeId} {W w : World} {g n c : Nat} {l : List Value} (h : OwnV t W w (.slice (some ⟨g, 0, none⟩) n c) l) (h0 : l ≠ []) : ∀ j (hj : j < l.length), w.cell? ⟨g, j, none⟩ = some l[j] := by
  obtain ⟨g', n', e, _, hc⟩ := h.cells h0
  injection e with e _ _
  injection e with e
  injection e with e _ _
  subst e
  exact hc
def ShB (w : World) (g : Nat) : Prop := ∃ cur fr, w.heap[g]? = some (.cells cur 222 fr)
theorem ShB.set {w : World} {g g' j : Nat} {x : Value} (h : ShB w g) : ShB (w.setCell ⟨g', j, none⟩ x) g := by
  obtain ⟨cur, fr, h⟩ := h
  by_cases e : g = g'
  · subst e; exact ⟨_, _, kr_set h⟩
  · exact ⟨_, _, (kr_far e).trans h⟩
end Go.Proofs.YtdkomhmciihkiaaGreat
/-! RowS -/
namespace Go.Proofs.YtdkomhmciihkiaaGreat
open Go.RowKit
set_option linter.unusedVariables false
set_option linter.unusedSimpArgs false

/-- a shape's rows: the point's, the places' -/
abbrev PtS' := Value → Value → Sh → Prop
/-- the cells cs hold the shapes l, Pt saying what their rows read as -/
def CellsS (Pt : PtS') : List Sh → List Value → Prop
  | [], cs => cs = []
  | s :: l, cs => ∃ u pl ds, cs = .int .i64 s.lv :: u :: pl :: .bool s.dense :: .int .u64 (s.v : Nat) :: ds ∧ Pt u pl s ∧ CellsS Pt l ds
theorem CellsS.length {Pt : PtS'} {cs : List Value} {l : List Sh} (h : CellsS Pt l cs) : cs.length = l.length * 5 := by
  induction l generalizing cs with
  | nil => obtain rfl : cs = [] := h; rfl
  | cons e l ih => obtain ⟨u, pl, ds, rfl, _, h⟩ := h; have := ih h; simp; omega
theorem CellsS.append {Pt : PtS'} {cs ds : List Value} {l m : List Sh} (h : CellsS Pt l cs) (k : CellsS Pt m ds) : CellsS Pt (l ++ m) (cs ++ ds) := by
  induction l generalizing cs with
  | nil => obtain rfl : cs = [] := h; exact k
  | cons e l ih => obtain ⟨u, pl, ds, rfl, hu, h⟩ := h; exact ⟨u, pl, _, rfl, hu, ih h⟩
theorem CellsS.mono {Pt Qt : PtS'} {cs : List Value} {l : List Sh} (h : CellsS Pt l cs) (hk : ∀ u p s, Pt u p s → Qt u p s) : CellsS Qt l cs := by
  induction l generalizing cs with
  | nil => exact h
  | cons e l ih => obtain ⟨u, pl, ds, rfl, hu, h⟩ := h; exact ⟨u, pl, ds, rfl, hk _ _ _ hu, ih h⟩
/-- rows are slices -/
def SlicesP (Pt : PtS') : Prop := ∀ u p s, Pt u p s → u.oneCell' = true ∧ p.oneCell' = true
theorem CellsS.oneCell {Pt : PtS'} (hp : SlicesP Pt) {cs : List Value} {l : List Sh} (h : CellsS Pt l cs) : ∀ u ∈ cs, u.oneCell' = true := by
  induction l generalizing cs with
  | nil => obtain rfl : cs = [] := h; intro u hu; simp at hu
  | cons e l ih =>
    obtain ⟨u, pl, ds, rfl, hu, h⟩ := h
    intro y hy
    simp only [List.mem_cons] at hy
    rcases hy with rfl | rfl | rfl | rfl | rfl | hy
    · rfl
    · exact (hp _ _ _ hu).1
    · exact (hp _ _ _ hu).2
    · rfl
    · rfl
    · exact ih h y hy
/-- a shape at a block's offset -/
def ShAt (Pt : PtS') (w : World) (b o : Nat) (s : Sh) : Prop := ∃ u pl, w.cell? ⟨b, o, none⟩ = some (.int .i64 s.lv) ∧ w.cell? ⟨b, o + 1, none⟩ = some u ∧ w.cell? ⟨b, o + 2, none⟩ = some pl ∧ w.cell? ⟨b, o + 3, none⟩ = some (.bool s.dense) ∧ w.cell? ⟨b, o + 4, none⟩ = some (.int .u64 (s.v : Nat)) ∧ Pt u pl s
theorem CellsS.at {Pt : PtS'} {w : World} {cs : List Value} {l : List Sh} (h : CellsS Pt l cs) {b o : Nat} (hc : ∀ j (h : j < cs.length), w.cell? ⟨b, o + j, none⟩ = some cs[j]) :
    ∀ j (h : j < l.length), ShAt Pt w b (o + j * 5) l[j] := by
  induction l generalizing cs o with
  | nil => intro j hj; simp at hj
  | cons e l ih =>
    obtain ⟨u, pl, ds, rfl, hu, h⟩ := h
    · intro j hj
      cases j with
      | zero =>
        have c0 := hc 0 (by simp)
        have c1 := hc 1 (by simp)
        have c2 := hc 2 (by simp)
        have c3 := hc 3 (by simp)
        have c4 := hc 4 (by simp)
        simp only [List.getElem_cons_zero, List.getElem_cons_succ, Nat.add_zero] at c0 c1 c2 c3 c4
        simp only [List.getElem_cons_zero, Nat.zero_mul, Nat.add_zero]
        exact ⟨u, pl, c0, c1, c2, c3, c4, hu⟩
      | succ j =>
        have := ih h (o := o + 5) (fun i hi => by
          have := hc (i + 5) (by simpa using hi)
          simp only [List.getElem_cons_succ] at this
          rw [show o + 5 + i = o + (i + 5) by omega]; exact this) j (by simpa using hj)
        simp only [List.getElem_cons_succ]
        rw [show o + (j + 1) * 5 = o + 5 + j * 5 by omega]; exact this
/-- the slice value v reads as the list l of shapes -/
def RdS (Pt : PtS') (w : World) (v : Value) (l : List Sh) : Prop :=
  ∃ A c, v = .slice A l.length c ∧ (0 < l.length → ∃ b, A = some ⟨b, 0, none⟩ ∧ ∀ j (h : j < l.length), ShAt Pt w b (j * 5) l[j])
/-- v is a row of the call's own (the call began in W) that holds the shapes l -/
def OwnS (Pt : PtS') (W w : World) (v : Value) (l : List Sh) : Prop := ∃ cs, w.ownsRow W.heap.size 222 5 v l.length cs ∧ CellsS Pt l cs
theorem OwnS.cellsAt {W w : World} {v : Value} {l : List Sh} {cs : List Value} (ho : w.ownsRow W.heap.size 222 5 v l.length cs) (hl : cs.length = l.length * 5) :
    (v = .slice none 0 0 ∧ l.length = 0) ∨ ∃ g cap, v = .slice (some ⟨g, 0, none⟩) l.length cap ∧ ∀ j (h : j < cs.length), w.cell? ⟨g, j, none⟩ = some cs[j] := by
  obtain ⟨h1, h2⟩ := ho
  rcases h2 with ⟨rfl, h0⟩ | ⟨g, cap, cur, rfl, hg, hh, hcap, hm, hs, ht⟩
  · exact .inl ⟨rfl, h0⟩
  · refine .inr ⟨g, cap, rfl, fun j hj => ?_⟩
    have h3 : cs[j]? = some cs[j] := List.getElem?_eq_getElem hj
    have h4 : j < l.length * 5 := by omega
    rw [← h3, ← ht, List.getElem?_take_of_lt h4, World.cell?]
    simp only [hh]
    simp
theorem OwnS.rd {Pt : PtS'} {W w : World} {v : Value} {l : List Sh} (h : OwnS Pt W w v l) : RdS Pt w v l := by
  obtain ⟨cs, ho, hc⟩ := h
  rcases OwnS.cellsAt ho hc.length with ⟨rfl, h0⟩ | ⟨g, cap, rfl, h1⟩
  · exact ⟨none, 0, by rw [h0], fun hp => absurd hp (by omega)⟩
  · refine ⟨_, _, rfl, fun h0 => ⟨g, rfl, fun j hj => ?_⟩⟩
    have := hc.at (b := g) (o := 0) (w := w) (fun j hj => by rw [Nat.zero_add]; exact h1 j hj) j hj
    rw [Nat.zero_add] at this; exact this
theorem OwnS.nil (Pt : PtS') (W w : World) : OwnS Pt W w (.slice none 0 0) [] := ⟨[], World.ownsRow_nil _ _ _ _, rfl⟩
theorem OwnS.mono {Pt Qt : PtS'} {W w : World} {v : Value} {l : List Sh} (h : OwnS Pt W w v l) (hk : ∀ u p s, Pt u p s → Qt u p s) : OwnS Qt W w v l := let ⟨cs, h1, h2⟩ := h; ⟨cs, h1, h2.mono hk⟩
theorem OwnS.below {Pt : PtS'} {W w w' : World} {v : Value} {l : List Sh} (h : OwnS Pt W w v l) (hb : Below w.heap.size w w') : OwnS Pt W w' v l := by
  obtain ⟨cs, ⟨h1, h2⟩, h3⟩ := h
  refine ⟨cs, ⟨h1, ?_⟩, h3⟩
  rcases h2 with h2 | ⟨g, cap, cur, q1, q2, q3, q4⟩
  · exact .inl h2
  · exact .inr ⟨g, cap, cur, q1, q2, (hb.block g (Array.getElem?_eq_some_iff.1 q3).1).trans q3, q4⟩
theorem OwnS.block {Pt : PtS'} {W w : World} {v : Value} {l : List Sh} (h : OwnS Pt W w v l) : ∀ k, v.ownBlock = some k → W.heap.size ≤ k ∧ ∃ cur, w.heap[k]? = some (.cells cur 222 (0, 0)) := by
  obtain ⟨cs, ⟨h1, h2⟩, h3⟩ := h
  intro k hk
  rcases h2 with ⟨rfl, _⟩ | ⟨g, cap, cur, rfl, q2, q3, q4⟩
  · cases hk
  · injection hk with hk; subst hk; exact ⟨q2, cur, q3⟩
theorem OwnS.grown {Pt : PtS'} {W w w' : World} {v : Value} {l : List Sh} (h : OwnS Pt W w v l) (hb : Below W.heap.size W w) (hg : w.grownBy w' v.ownBlock) : Below W.heap.size W w' :=
  hb.grown hg hb.size fun k hk => (h.block k hk).1
/-- shapes to be appended -/
def SrcS (Pt : PtS') (w : World) (x : Value) (m : List Sh) : Prop := ∃ cs, CellsS Pt m cs ∧ Src w 5 m.length x cs
theorem SrcS.one {Pt : PtS'} (hp : SlicesP Pt) {w : World} {b cc : Nat} {s : Sh} {u pl : Value} (hu : Pt u pl s) (k0 : w.cell? ⟨b, 0, none⟩ = some (.int .i64 s.lv)) (k1 : w.cell? ⟨b, 1, none⟩ = some u) (k2 : w.cell? ⟨b, 2, none⟩ = some pl)
    (k3 : w.cell? ⟨b, 3, none⟩ = some (.bool s.dense)) (k4 : w.cell? ⟨b, 4, none⟩ = some (.int .u64 (s.v : Nat))) : SrcS Pt w (.slice (some ⟨b, 0, none⟩) 1 cc) [s] := by
  have hn : CellsS Pt [s] [.int .i64 s.lv, u, pl, .bool s.dense, .int .u64 (s.v : Nat)] := ⟨u, pl, [], rfl, hu, rfl⟩
  refine ⟨_, hn, rfl, hn.oneCell hp, _, cc, rfl, (fun h => by cases h), fun ad had j x hj => ?_⟩
  injection had with had; subst had
  match j with
  | 0 => simp at hj; subst hj; simpa [Addr.add] using k0
  | 1 => simp at hj; subst hj; simpa [Addr.add] using k1
  | 2 => simp at hj; subst hj; simpa [Addr.add] using k2
  | 3 => simp at hj; subst hj; simpa [Addr.add] using k3
  | 4 => simp at hj; subst hj; simpa [Addr.add] using k4
  | j + 5 => simp at hj
end Go.Proofs.YtdkomhmciihkiaaGreat
/-! RefU -/
namespace Go.Proofs.YtdkomhmciihkiaaGreat
open Go.RowKit
set_option linter.unusedVariables false
set_option linter.unusedSimpArgs false
set_option maxRecDepth 100000

/-- what a shape's rows read as -/
def PtK (W0 W w : World) : PtS' := fun u pl s => (RdU W0 u (pti s.pre) ∨ PtNew w u s.pre) ∧ OwnV 3 W w pl (s.pl.map fun (x : Nat) => Value.int .i64 (x : Nat))
theorem PtK.below {W0 W w w' : World} (hb : Below w.heap.size w w') : ∀ u p s, PtK W0 W w u p s → PtK W0 W w' u p s := fun u p s h => ⟨h.1.imp id (·.below hb), h.2.below hb⟩
theorem PtK.base {W0 W W' w : World} (hs : W.heap.size ≤ W'.heap.size) : ∀ u p s, PtK W0 W' w u p s → PtK W0 W w u p s := fun u p s h => ⟨h.1, h.2.base hs⟩
theorem PtK.grown {W0 W w w' : World} {Pt : PtS'} {v : Value} {l : List Sh} (ho : OwnS Pt W w v l) (hg : w.grownBy w' v.ownBlock) : ∀ u p s, PtK W0 W w u p s → PtK W0 W w' u p s := by
  have key : ∀ {b : Nat} {cur : Array Value} {t : TypeId} {fr : Nat × Nat}, t ≠ 222 → w.heap[b]? = some (.cells cur t fr) → w'.heap[b]? = w.heap[b]? := fun ht hb =>
    hg.block _ (kr_lt hb) fun e => by
      obtain ⟨_, c2, h2⟩ := ho.block _ e.symm
      rw [hb] at h2
      injection h2 with h2
      injection h2 with _ h2 _
      exact ht h2
  exact fun u p s h => ⟨h.1.imp id (·.keepBlock fun b cur fr hb => key (by decide) hb), h.2.keepBlock fun b cur hb => key (by decide) hb⟩
theorem flat_len (ks : List (Nat × List En)) (h : ∀ x ∈ ks, (shapesL x.2).length + 1 ≤ 2 * x.2.length) : (ks.flatMap fun x => shapesL x.2).length + ks.length ≤ 2 * (cat ks).length := by
  induction ks with
  | nil => simp [cat]
  | cons x ks ih =>
    have h1 := h x (by simp)
    have h2 := ih fun y hy => h y (by simp [hy])
    unfold cat at h2 ⊢
    simp only [List.flatMap_cons, List.length_append, List.length_cons]
    omega
theorem Tn.len {k : Nat} {l : List En} (h : Tn k l) : (shapesL l).length + 1 ≤ 2 * l.length := by
  induction h with
  | one e h => rw [shapes_one]; simp
  | node n pre ks hk hn ih =>
    rw [Tn.shapes hk hn]
    have := flat_len ks ih
    have h2 := hk.two
    simp only [List.length_cons]
    omega
end Go.Proofs.YtdkomhmciihkiaaGreat
/-! RefV -/
namespace Go.Proofs.YtdkomhmciihkiaaGreat
open Go.RowKit
set_option linter.unusedVariables false
set_option linter.unusedSimpArgs false
set_option maxRecDepth 100000

end Go.Proofs.YtdkomhmciihkiaaGreat
/-! RefW -/
namespace Go.Proofs.YtdkomhmciihkiaaGreat
open Go.RowKit
set_option linter.unusedVariables false
set_option linter.unusedSimpArgs false
set_option maxRecDepth 100000

/-- a shape's rows, read -/
def PtR (w : World) : PtS' := fun u pl s => RdU w u (pti s.pre) ∧ Sl w pl (s.pl.map fun (x : Nat) => Value.int .i64 (x : Nat))
theorem PtK.rd {W0 W w : World} (hb : Below W0.heap.size W0 w) : ∀ u p s, PtK W0 W w u p s → PtR w u p s := fun u p s h => ⟨h.1.elim (·.below hb) (·.rd), h.2.rd⟩
theorem PtR.below {w w' : World} (hb : Below w.heap.size w w') : ∀ u p s, PtR w u p s → PtR w' u p s := fun u p s h => ⟨h.1.below hb, h.2.below hb⟩
end Go.Proofs.YtdkomhmciihkiaaGreat
/-! RefX -/
namespace Go.Proofs.YtdkomhmciihkiaaGreat
open Go.RowKit
set_option linter.unusedVariables false
set_option linter.unusedSimpArgs false
set_option maxRecDepth 100000

/-- the sums that are being made: the block's cells -/
def SB (w : World) (G : Nat) (S : Sm) : Prop := w.heap[G]? = some (.cells #[.int .u64 (S.n : Nat), .int .u64 (S.s : Nat), .int .u64 (S.mn : Nat), .int .u64 (S.mx : Nat)] 217 (0, 0))
theorem SB.cell {w : World} {G : Nat} {S : Sm} (h : SB w G S) (i : Nat) : w.cell? ⟨G, i, none⟩ = (#[.int .u64 (S.n : Nat), .int .u64 (S.s : Nat), .int .u64 (S.mn : Nat), .int .u64 (S.mx : Nat)] : Array Value)[i]? := by
  unfold SB at h; simp [World.cell?, h]
/-- one more -/
def Sm.step (S : Sm) (j v : Nat) : Sm := ⟨(S.n + 1) % 2 ^ 64, (S.s + v) % 2 ^ 64, if j = 0 ∨ v < S.mn then v else S.mn, if S.mx < v then v else S.mx⟩
end Go.Proofs.YtdkomhmciihkiaaGreat
/-! TrS -/
namespace Go.Proofs.YtdkomhmciihkiaaGreat
open Go.RowKit
set_option linter.unusedVariables false
set_option linter.unusedSimpArgs false
set_option maxRecDepth 100000

theorem OwnV.last {t : TypeId} {W w : World} {v x : Value} {l : List Value} (h : OwnV t W w v (l ++ [x])) :
    ∃ g c, v = .slice (some ⟨g, 0, none⟩) (l.length + 1) c ∧ w.cell? ⟨g, l.length, none⟩ = some x ∧ OwnV t W w (.slice (some ⟨g, 0, none⟩) l.length c) l ∧ l.length + 1 ≤ c := by
  obtain ⟨g, c, rfl, hg, hc⟩ := h.cells (by simp)
  have hc' := hc l.length (by simp)
  obtain ⟨h1, h2⟩ := h
  rw [List.length_append, List.length_singleton] at h2 ⊢
  rcases h2 with ⟨h2, _⟩ | ⟨g', cap, cur, q1, q2, q3, q4, q5, q6, q7⟩
  · cases h2
  · injection q1 with q1 _ q1'
    injection q1 with q1
    injection q1 with q1
    subst q1 q1'
    refine ⟨g, c, rfl, by rw [hc']; simp, ⟨by simp, .inr ⟨g, c, cur, rfl, q2, q3, by omega, q5, q6, ?_⟩⟩, q4⟩
    have := congrArg (List.take l.length) q7
    rw [List.take_take, List.take_left] at this
    rw [Nat.mul_one] at this ⊢
    rw [Nat.min_eq_left (by omega)] at this
    exact this
end Go.Proofs.YtdkomhmciihkiaaGreat
/-! IsN -/
namespace Go.Proofs.YtdkomhmciihkiaaGreat
open Go.RowKit
set_option linter.unusedVariables false
set_option linter.unusedSimpArgs false
set_option maxRecDepth 100000

theorem Nd.vals {w : World} {k b : Nat} {l : List En} (h : Nd w k b l) : ∀ e ∈ l, e.v < 2 ^ 64 := by
  induction h with
  | leaf _ p v h hp ho hv => intro e he; obtain rfl : e = ⟨p, v⟩ := by simpa using he
                             exact hv
  | node _ s n pre ks h hs hkd hn ih =>
    intro e he
    obtain ⟨x, hx, he⟩ := mem_cat.1 he
    obtain ⟨y, hy, rfl⟩ := List.mem_map.1 hx
    exact ih y hy e he
end Go.Proofs.YtdkomhmciihkiaaGreat
/-! IsT -/
namespace Go.Proofs.YtdkomhmciihkiaaGreat
open Go.RowKit
set_option linter.unusedVariables false
set_option linter.unusedSimpArgs false
set_option maxRecDepth 100000

theorem RdS.mono {Pt Qt : PtS'} {w : World} {v : Value} {l : List Sh} (h : RdS Pt w v l) (hk : ∀ u p s, Pt u p s → Qt u p s) : RdS Qt w v l := by
  obtain ⟨A, c, e, h⟩ := h
  exact ⟨A, c, e, fun hp => let ⟨b, h1, h2⟩ := h hp; ⟨b, h1, fun j hj => let ⟨u, pl, a0, a1, a2, a3, a4, a5⟩ := h2 j hj; ⟨u, pl, a0, a1, a2, a3, a4, hk _ _ _ a5⟩⟩⟩
theorem RdS.below {Pt : PtS'} {w w' : World} {v : Value} {l : List Sh} (h : RdS Pt w v l) (hb : Below w.heap.size w w') : RdS Pt w' v l := by
  obtain ⟨A, c, e, h⟩ := h
  have hk := Below.keeps hb
  exact ⟨A, c, e, fun hp => let ⟨b, h1, h2⟩ := h hp; ⟨b, h1, fun j hj => let ⟨u, pl, a0, a1, a2, a3, a4, a5⟩ := h2 j hj; ⟨u, pl, hk _ _ a0, hk _ _ a1, hk _ _ a2, hk _ _ a3, hk _ _ a4, a5⟩⟩⟩
end Go.Proofs.YtdkomhmciihkiaaGreat
/-! Pause -/
namespace Go.Proofs.YtdkomhmciihkiaaGreat
open Go.RowKit
set_option linter.unusedVariables false

/-- the world gets a name -/
theorem stayC {P : Program} {c : Code} {Q : Exit → Act → World → Prop} {a : Act} {W : World} (h : ∀ w', w' = W → Code.wp P c Q a w') : Code.wp P c Q a W := h W rfl
end Go.Proofs.YtdkomhmciihkiaaGreat
/-! OwnN -/
namespace Go.Proofs.YtdkomhmciihkiaaGreat
open Go.RowKit
set_option linter.unusedVariables false
set_option linter.unusedSimpArgs false

/-- a point in a row of numbers, or none -/
def PtN (w : World) (u : Value) (p : List Nat) : Prop := PtNew w u p ∨ (p = [] ∧ ∃ A c, u = .slice A 0 c)
theorem PtN.rd {w : World} {u : Value} {p : List Nat} (h : PtN w u p) : RdU w u (pti p) := by
  rcases h with h | ⟨rfl, A, c, rfl⟩
  · exact h.rd
  · exact RdU.nil _ _ _
theorem PtN.below {w w' : World} {u : Value} {p : List Nat} (h : PtN w u p) (hb : Below w.heap.size w w') : PtN w' u p := h.imp (·.below hb) id
theorem PtN.keepBlock {w w' : World} {u : Value} {p : List Nat} (h : PtN w u p) (hk : ∀ (b : Nat) (cur : Array Value) (fr : Nat × Nat), w.heap[b]? = some (Obj.cells cur 22 fr) → w'.heap[b]? = w.heap[b]?) : PtN w' u p := h.imp (·.keepBlock hk) id
theorem PtN.shape {w : World} {u : Value} {p : List Nat} (h : PtN w u p) : ∃ A n c, u = .slice A n c := by
  rcases h with ⟨_, b, o, c', cur, fr, e, _⟩ | ⟨_, A, c, e⟩
  · exact ⟨_, _, _, e⟩
  · exact ⟨_, _, _, e⟩
end Go.Proofs.YtdkomhmciihkiaaGreat
/-! ThenG -/
namespace Go.Proofs.YtdkomhmciihkiaaGreat
open Go.RowKit
set_option linter.unusedVariables false
set_option linter.unusedSimpArgs false

theorem cells_setCell {w : World} {b k : Nat} {cur : Array Value} {u : Value} {t : TypeId} {fr : Nat × Nat} (h : w.heap[b]? = some (.cells cur t fr)) : (w.setCell ⟨b, k, none⟩ u).heap[b]? = some (.cells (cur.setIfInBounds k u) t fr) := by
  have hlt := lt_of_block h
  have h' : w.heap[b] = .cells cur t fr := by simpa [Array.getElem?_eq_getElem hlt] using h
  show (w.heap.modify b _)[b]? = _
  rw [Array.getElem?_eq_getElem (by simpa using hlt), Array.getElem_modify_self, h']
  rfl
theorem InvT.bel {W w : World} {B : Nat} {o : List Ch} (h : InvT W B o w) : Below W.heap.size W w := let ⟨_, _, _, h⟩ := h; h
theorem InvT.below {W w w' : World} {B : Nat} {o : List Ch} (h : InvT W B o w) (hB : B < w.heap.size) (hb : Below w.heap.size w w') : InvT W B o w' :=
  let ⟨vo, h1, h2, h3⟩ := h
  ⟨vo, (hb.block B hB).trans h1, (h2.below hb).mono fun u p h => h.below hb, h3.trans (hb.mono h3.size)⟩
























































































































































































































































































































































end Go.Proofs.YtdkomhmciihkiaaGreat
/-! RowN -/
namespace Go.Proofs.YtdkomhmciihkiaaGreat
open Go.RowKit
set_option linter.unusedVariables false
set_option linter.unusedSimpArgs false

theorem ne_type {w : World} {a b : Nat} {c1 c2 : Array Value} {t1 t2 : TypeId} {f1 f2 : Nat × Nat} (h1 : w.heap[a]? = some (.cells c1 t1 f1)) (h2 : w.heap[b]? = some (.cells c2 t2 f2)) (ht : t1 ≠ t2) : a ≠ b := by
  intro e
  subst e
  rw [h1] at h2
  injection h2 with h2
  injection h2 with _ h2 _
  exact ht h2
/-- a row of numbers that is being written: n cells, the first ones hold xs -/
def PtRow (w : World) (g n : Nat) (xs : List Nat) : Prop := ∃ cur, w.heap[g]? = some (.cells cur 22 (0, 0)) ∧ cur.size = n ∧ ∀ j (h : j < xs.length), cur[j]? = some (.int .u64 ((xs[j] : Nat) : Int))
theorem PtRow.cell {w : World} {g n : Nat} {xs : List Nat} (h : PtRow w g n xs) (j : Nat) (hj : j < n) : (∃ v, w.cell? ⟨g, j, none⟩ = some v) ∧ w.frozen? ⟨g, j, none⟩ = false := by
  obtain ⟨cur, h1, h2, h3⟩ := h
  exact ⟨⟨cur[j]'(by omega), by simp [World.cell?, h1, h2, hj]⟩, by simp [World.frozen?, h1]⟩
theorem PtRow.skip {w : World} {g n : Nat} {xs : List Nat} (h : PtRow w g n xs) (j : Nat) (hj : xs.length ≤ j) (v : Value) : PtRow (w.setCell ⟨g, j, none⟩ v) g n xs := by
  obtain ⟨cur, h1, h2, h3⟩ := h
  refine ⟨_, cells_setCell h1, by simpa using h2, fun i hi => ?_⟩
  rw [Array.getElem?_setIfInBounds_ne (by omega)]
  exact h3 i hi
theorem PtRow.set {w : World} {g n : Nat} {xs : List Nat} (h : PtRow w g n xs) (hn : xs.length < n) (x : Nat) : PtRow (w.setCell ⟨g, xs.length, none⟩ (.int .u64 (x : Nat))) g n (xs ++ [x]) := by
  obtain ⟨cur, h1, h2, h3⟩ := h
  refine ⟨_, cells_setCell h1, by simpa using h2, fun i hi => ?_⟩
  rw [List.length_append, List.length_singleton] at hi
  by_cases e : i < xs.length
  · rw [Array.getElem?_setIfInBounds_ne (by omega), List.getElem_append_left e]
    exact h3 i e
  · obtain rfl : i = xs.length := by omega
    rw [Array.getElem?_setIfInBounds_self_of_lt (by omega)]
    simp
theorem PtRow.stays {w w' : World} {g n : Nat} {xs : List Nat} (h : PtRow w g n xs) (hk : ∀ o, w.heap[g]? = some o → w'.heap[g]? = some o) : PtRow w' g n xs := let ⟨cur, h1, h2⟩ := h; ⟨cur, hk _ h1, h2⟩
theorem PtRow.lt {w : World} {g n : Nat} {xs : List Nat} (h : PtRow w g n xs) : g < w.heap.size := let ⟨_, h1, _⟩ := h; lt_of_block h1
end Go.Proofs.YtdkomhmciihkiaaGreat
/-! MrgA -/
namespace Go.Proofs.YtdkomhmciihkiaaGreat
open Go.RowKit
set_option linter.unusedVariables false
set_option linter.unusedSimpArgs false

theorem CellsX.oneCell {Pt : Value → List Nat → Prop} {w : World} (hp : ∀ u p, Pt u p → RdU w u (pti p)) {cs : List Value} {l : List Clh} (h : CellsX Pt l cs) : ∀ u ∈ cs, u.oneCell' = true := by
  induction l generalizing cs with
  | nil => obtain rfl : cs = [] := h; intro u hu; simp at hu
  | cons e l ih =>
    obtain ⟨u, ds, rfl, hu, h⟩ := h
    intro y hy
    rcases List.mem_append.1 hy with hy | hy
    · simp only [clCells, List.mem_cons, List.not_mem_nil, or_false] at hy
      rcases hy with rfl | rfl | rfl | rfl | rfl | rfl | rfl
      · exact RdU.one' (hp _ _ hu)
      all_goals rfl
    · exact ih h y hy
def OwnX (Pt : Value → List Nat → Prop) (W w : World) (v : Value) (l : List Clh) : Prop := ∃ cs, w.ownsRow W.heap.size 149 7 v l.length cs ∧ CellsX Pt l cs
theorem OwnX.nil (Pt : Value → List Nat → Prop) (W w : World) : OwnX Pt W w (.slice none 0 0) [] := ⟨[], World.ownsRow_nil _ _ _ _, rfl⟩
theorem OwnX.mono {Pt Qt : Value → List Nat → Prop} {W w : World} {v : Value} {l : List Clh} (h : OwnX Pt W w v l) (hk : ∀ u p, Pt u p → Qt u p) : OwnX Qt W w v l := let ⟨cs, h1, h2⟩ := h; ⟨cs, h1, h2.mono hk⟩
theorem OwnX.below {Pt : Value → List Nat → Prop} {W w w' : World} {v : Value} {l : List Clh} (h : OwnX Pt W w v l) (hb : Below w.heap.size w w') : OwnX Pt W w' v l := by
  obtain ⟨cs, ⟨h1, h2⟩, h3⟩ := h
  refine ⟨cs, ⟨h1, ?_⟩, h3⟩
  rcases h2 with h2 | ⟨g, cap, cur, q1, q2, q3, q4⟩
  · exact .inl h2
  · exact .inr ⟨g, cap, cur, q1, q2, (hb.block g (Array.getElem?_eq_some_iff.1 q3).1).trans q3, q4⟩
theorem OwnX.keepBlock {Pt : Value → List Nat → Prop} {W w w' : World} {v : Value} {l : List Clh} (h : OwnX Pt W w v l) (hk : ∀ (b : Nat) (cur : Array Value), w.heap[b]? = some (Obj.cells cur 149 (0, 0)) → w'.heap[b]? = w.heap[b]?) : OwnX Pt W w' v l := by
  obtain ⟨cs, ⟨h1, h2⟩, h3⟩ := h
  refine ⟨cs, ⟨h1, ?_⟩, h3⟩
  rcases h2 with h2 | ⟨g, cap, cur, q1, q2, q3, q4⟩
  · exact .inl h2
  · exact .inr ⟨g, cap, cur, q1, q2, (hk g _ q3).trans q3, q4⟩
theorem OwnX.shape {Pt : Value → List Nat → Prop} {W w : World} {v : Value} {l : List Clh} (h : OwnX Pt W w v l) : ∃ A c, v = .slice A l.length c := by
  obtain ⟨cs, ⟨h1, h2⟩, h3⟩ := h
  rcases h2 with ⟨rfl, h0⟩ | ⟨g, cap, cur, rfl, _⟩
  · exact ⟨_, _, by rw [h0]⟩
  · exact ⟨_, _, rfl⟩
theorem OwnX.block {Pt : Value → List Nat → Prop} {W w : World} {v : Value} {l : List Clh} (h : OwnX Pt W w v l) : ∀ k, v.ownBlock = some k → W.heap.size ≤ k ∧ ∃ cur, w.heap[k]? = some (.cells cur 149 (0, 0)) := by
  obtain ⟨cs, ⟨h1, h2⟩, h3⟩ := h
  intro k hk
  rcases h2 with ⟨rfl, _⟩ | ⟨g, cap, cur, rfl, q2, q3, q4⟩
  · cases hk
  · injection hk with hk; subst hk; exact ⟨q2, cur, q3⟩
/-- a slice reads as clashes -/
def XAt (w : World) (b o : Nat) (c : Clh) : Prop := ∃ u, RdU w u (pti c.p) ∧ ∀ i (h : i < 7), w.cell? ⟨b, o + i, none⟩ = (clCells c u)[i]?
def RdX (w : World) (v : Value) (l : List Clh) : Prop :=
  ∃ A c, v = .slice A l.length c ∧ (0 < l.length → ∃ b o, A = some ⟨b, o, none⟩ ∧ ∀ j (h : j < l.length), XAt w b (o + j * 7) l[j])
theorem XAt.below {w w' : World} {b o : Nat} {c : Clh} (h : XAt w b o c) (hb : Below w.heap.size w w') : XAt w' b o c := by
  obtain ⟨u, h1, h2⟩ := h
  refine ⟨u, h1.below hb, fun i hi => ?_⟩
  have h3 := h2 i hi
  have h4 : (clCells c u)[i]? = some ((clCells c u)[i]'hi) := List.getElem?_eq_getElem hi
  rw [h4] at h3 ⊢
  exact Below.keeps hb _ _ h3
theorem RdX.below {w w' : World} {v : Value} {l : List Clh} (h : RdX w v l) (hb : Below w.heap.size w w') : RdX w' v l := by
  obtain ⟨A, c, e, h⟩ := h
  exact ⟨A, c, e, fun hp => let ⟨b, o, ha, hc⟩ := h hp; ⟨b, o, ha, fun j hj => (hc j hj).below hb⟩⟩
theorem CellsX.get {Pt : Value → List Nat → Prop} {cs : List Value} {l : List Clh} (h : CellsX Pt l cs) :
    ∀ j (h : j < l.length), ∃ u, Pt u l[j].p ∧ ∀ i (hi : i < 7), cs[j * 7 + i]? = (clCells l[j] u)[i]? := by
  induction l generalizing cs with
  | nil => intro j hj; simp at hj
  | cons e l ih =>
    obtain ⟨u, ds, rfl, hu, h⟩ := h
    intro j hj
    cases j with
    | zero =>
      refine ⟨u, hu, fun i hi => ?_⟩
      rw [Nat.zero_mul, Nat.zero_add, List.getElem?_append_left (show i < (clCells e u).length from hi)]
      rfl
    | succ j =>
      obtain ⟨u', h1, h2⟩ := ih h j (by simpa using hj)
      refine ⟨u', by simpa using h1, fun i hi => ?_⟩
      rw [List.getElem?_append_right (show (clCells e u).length ≤ (j + 1) * 7 + i by show 7 ≤ _; omega), show (j + 1) * 7 + i - (clCells e u).length = j * 7 + i by show _ - 7 = _; omega, h2 i hi]
      simp
theorem OwnX.rd {Pt : Value → List Nat → Prop} {W w : World} {v : Value} {l : List Clh} (h : OwnX Pt W w v l) (hp : ∀ u p, Pt u p → RdU w u (pti p)) : RdX w v l := by
  obtain ⟨cs, ⟨h1, h2⟩, h3⟩ := h
  rcases h2 with ⟨rfl, h0⟩ | ⟨g, cap, cur, rfl, q2, q3, q4, q5, q6, q7⟩
  · exact ⟨none, 0, by rw [h0], fun hp => absurd hp (by omega)⟩
  · refine ⟨_, _, rfl, fun _ => ⟨g, 0, rfl, fun j hj => ?_⟩⟩
    obtain ⟨u, r1, r2⟩ := h3.get j hj
    refine ⟨u, hp _ _ r1, fun i hi => ?_⟩
    have r3 := r2 i hi
    rw [← q7, List.getElem?_take_of_lt (by omega)] at r3
    rw [← r3]
    simp [World.cell?, q3]
theorem clashInfo : (Tryz.prog.info? 149).map (fun i => (i.zero, i.size, i.bytes)) = some (some (.agg #[.slice none 0 0, .bool false, .bool false, .bool false, .int .u64 0, .int .u64 0, .int .u64 0]), 7, 56) := by kernel_rfl
/-- one clash to be appended -/
def SrcX (Pt : Value → List Nat → Prop) (w : World) (x : Value) (c : Clh) : Prop :=
  ∃ b cc u, x = .slice (some ⟨b, 0, none⟩) 1 cc ∧ Pt u c.p ∧ ∀ i (hi : i < 7), w.cell? ⟨b, i, none⟩ = (clCells c u)[i]?
theorem run_append_X {Pt : Value → List Nat → Prop} (W w : World) (hp : ∀ u p, Pt u p → RdU w u (pti p)) (v x : Value) (l : List Clh) (e : Clh) (hown : OwnX Pt W w v l) (hx : SrcX Pt w x e) (hb : W.heap.size ≤ w.heap.size) (hlen : l.length ≤ 100000) (ty : TypeId) :
    ∃ v' w', (Builtin.append_ #[63, 63] ty #[v, x]).run Tryz.prog w = .ok v' w' ∧ OwnX Pt W w' v' (l ++ [e]) ∧ w.grownBy w' v.ownBlock := by
  obtain ⟨cs, ho, hc⟩ := hown
  obtain ⟨b, cc, u, rfl, ku, k1⟩ := hx
  have hn : CellsX Pt [e] (clCells e u) := ⟨u, [], by rw [List.append_nil], ku, rfl⟩
  obtain ⟨v', w', a1, a2, a3⟩ := run_append_src (P := Tryz.prog) w W.heap.size 63 ty 149 _ 7 56 Tryz.underlying63 clashInfo rfl (by omega) v l.length cs ho (.slice (some ⟨b, 0, none⟩) 1 cc) 1 (clCells e u)
    ⟨rfl, hn.oneCell hp, _, cc, rfl, (fun h => by cases h), fun ad had j x hj => by
      injection had with had; subst had
      have hj7 : j < 7 := by
        have := (List.getElem?_eq_some_iff.1 hj).1
        exact this
      have := k1 j hj7
      rw [hj] at this
      rw [addr_off, Nat.zero_add]; exact this⟩ (by simp only [maxLen]; omega) (by omega) hb
  exact ⟨v', w', a1, ⟨_, by rw [List.length_append]; exact a2, hc.append hn⟩, a3⟩

/-- the merger's block G: k, what picks, the clashes so far -/
def InvM (W : World) (G k : Nat) (pk : Value) (cl : List Clh) (w : World) : Prop :=
  ∃ vo, w.heap[G]? = some (.cells #[.int .i64 (k : Nat), pk, vo] 248 (0, 0)) ∧ OwnX (PtNew w) W w vo cl ∧ Below W.heap.size W w ∧ W.heap.size ≤ G
theorem InvM.bel {W w : World} {G k : Nat} {pk : Value} {cl : List Clh} (h : InvM W G k pk cl w) : Below W.heap.size W w := let ⟨_, _, _, h, _⟩ := h; h
theorem InvM.lt {W w : World} {G k : Nat} {pk : Value} {cl : List Clh} (h : InvM W G k pk cl w) : G < w.heap.size := let ⟨_, h, _⟩ := h; lt_of_block h
theorem InvM.below {W w w' : World} {G k : Nat} {pk : Value} {cl : List Clh} (h : InvM W G k pk cl w) (hb : Below w.heap.size w w') : InvM W G k pk cl w' := by
  obtain ⟨vo, h1, h2, h3, h4⟩ := h
  exact ⟨vo, (hb.block _ (lt_of_block h1)).trans h1, (h2.mono fun u p hu => hu.below hb).below hb, h3.trans (hb.mono h3.size), h4⟩
theorem three_setCell {w : World} {b k : Nat} {cur : Array Value} {u : Value} {t : TypeId} {fr : Nat × Nat} (h : w.heap[b]? = some (.cells cur t fr)) : (w.setCell ⟨b, k, none⟩ u).heap[b]? = some (.cells (cur.setIfInBounds k u) t fr) := by
  simp [World.setCell, Array.getElem?_modify, h]
theorem InvM.cells {W w : World} {G k : Nat} {pk : Value} {cl : List Clh} (h : InvM W G k pk cl w) : ∃ A c, OwnX (PtNew w) W w (.slice A cl.length c) cl ∧ w.heap[G]? = some (.cells #[.int .i64 (k : Nat), pk, .slice A cl.length c] 248 (0, 0)) ∧ w.cell? ⟨G, 0, none⟩ = some (.int .i64 (k : Nat)) ∧ w.cell? ⟨G, 1, none⟩ = some pk ∧ w.cell? ⟨G, 2, none⟩ = some (.slice A cl.length c) ∧ (∀ i, w.frozen? ⟨G, i, none⟩ = false) := by
  obtain ⟨vo, h1, h2, h3, h4⟩ := h
  obtain ⟨A, c, rfl⟩ := h2.shape
  exact ⟨A, c, h2, h1, by simp [World.cell?, h1], by simp [World.cell?, h1], by simp [World.cell?, h1], fun i => by simp [World.frozen?, h1]⟩
/-- a clash more -/
theorem InvM.push {W w3 w4 : World} {G k : Nat} {pk vo v' : Value} {cl cl' : List Clh} (hG : W.heap.size ≤ G) (hblk : w3.heap[G]? = some (.cells #[.int .i64 (k : Nat), pk, vo] 248 (0, 0))) (hown : OwnX (PtNew w3) W w3 vo cl) (hb : Below W.heap.size W w3)
    (hown' : OwnX (PtNew w3) W w4 v' cl') (hg : w3.grownBy w4 vo.ownBlock) : w4.heap[G]? = some (.cells #[.int .i64 (k : Nat), pk, vo] 248 (0, 0)) ∧ InvM W G k pk cl' (w4.setCell ⟨G, 2, none⟩ v') ∧ Km w3 (w4.setCell ⟨G, 2, none⟩ v') := by
  have key : ∀ (b : Nat) (cur : Array Value) (t : TypeId) (fr : Nat × Nat), w3.heap[b]? = some (.cells cur t fr) → t ≠ 149 → w4.heap[b]? = some (.cells cur t fr) := fun b cur t fr hb ht => (hg.block b (lt_of_block hb) (by
    intro e
    obtain ⟨_, cur', hc⟩ := hown.block b e.symm
    exact ne_type hb hc ht rfl)).trans hb
  have hG4 := key _ _ _ _ hblk (by decide)
  have hfar : ∀ b, b ≠ G → (w4.setCell ⟨G, 2, none⟩ v').heap[b]? = w4.heap[b]? := fun b hbG => heap_setCell_other _ _ _ _ hbG
  have hkm : Km w3 (w4.setCell ⟨G, 2, none⟩ v') := by
    refine ⟨by rw [World.size_setCell]; exact hg.size, fun b cur t fr h1 h2 => ?_⟩
    by_cases hbG : b = G
    · subst hbG
      rw [hblk] at h1
      injection h1 with h1
      injection h1 with _ h1 _
      subst h1
      exact absurd h2 (by decide)
    · rw [hfar b hbG]
      exact key _ _ _ _ h1 (fun e => by subst e; exact absurd h2 (by decide))
  refine ⟨hG4, ⟨v', by rw [three_setCell hG4]; rfl, ?_, ?_, hG⟩, hkm⟩
  · have h5 : OwnX (PtNew (w4.setCell ⟨G, 2, none⟩ v')) W w4 v' cl' := hown'.mono fun u p hu => hkm.ptNew hu
    exact h5.keepBlock fun b cur hc => hfar b (fun e => by subst e; exact ne_type hG4 hc (by decide) rfl)
  · refine Below.setCell ?_ hG _
    exact hb.grown hg hb.size (fun q hq => (hown.block q hq).1)
end Go.Proofs.YtdkomhmciihkiaaGreat
