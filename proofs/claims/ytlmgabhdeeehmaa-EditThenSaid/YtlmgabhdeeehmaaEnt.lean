/-
  Lists of entries in memory: what they read as; rows of the call's own that hold entries or changes.
-/
import Derived.Test.YtlmgabhdeeehmaaEdPure
import Derived.ArgAppend
import Derived.Laws.OwnMore
namespace Go.Proofs.Ytlmgabhdeeehmaa
open Go.RowKit
set_option linter.unusedVariables false

/-- the entry's two cells at block b, from o on -/
def EnAt (w : World) (b o : Nat) (e : En) : Prop :=
  ∃ v, w.cell? ⟨b, o, none⟩ = some v ∧ RdU w v (pti e.p) ∧ w.cell? ⟨b, o + 1, none⟩ = some (.int .u64 (e.v : Nat))
/-- the slice value v reads as the list l of entries -/
def RdE (w : World) (v : Value) (l : List En) : Prop :=
  ∃ A c, v = .slice A l.length c ∧ (l.length ≤ c ∧ c ≤ maxLen ∧ (0 < c → ∃ b o, A = some ⟨b, o, none⟩)) ∧ (0 < l.length → ∃ b o, A = some ⟨b, o, none⟩ ∧ ∀ j (h : j < l.length), EnAt w b (o + j * 2) l[j])
theorem EnAt.keep {w w' : World} {b o : Nat} {c : En} (h : EnAt w b o c) (hk : ∀ a x, w.cell? a = some x → w'.cell? a = some x) : EnAt w' b o c := by
  obtain ⟨v, h0, hv, h1⟩ := h
  exact ⟨v, hk _ _ h0, RdU.keep hv hk, hk _ _ h1⟩
theorem RdE.keep {w w' : World} {v : Value} {l : List En} (h : RdE w v l) (hk : ∀ a x, w.cell? a = some x → w'.cell? a = some x) : RdE w' v l := by
  obtain ⟨A, c, e, hl, h⟩ := h
  exact ⟨A, c, e, hl, fun hp => let ⟨b, o, ha, hc⟩ := h hp; ⟨b, o, ha, fun j hj => (hc j hj).keep hk⟩⟩
theorem RdE.below {w w' : World} {v : Value} {l : List En} (h : RdE w v l) (hb : Below w.heap.size w w') : RdE w' v l := RdE.keep h (Below.keeps hb)
theorem RdE.nil (w : World) (A : Option Addr) (c : Nat) (h : c ≤ maxLen) (h0 : 0 < c → ∃ b o, A = some ⟨b, o, none⟩) : RdE w (.slice A 0 c) [] := ⟨A, c, rfl, ⟨Nat.zero_le _, h, h0⟩, fun h => absurd h (by simp)⟩
/-- the length is within the capacity -/
def CapOk (v : Value) : Prop := ∃ A n c, v = .slice A n c ∧ n ≤ c ∧ c ≤ maxLen ∧ (0 < c → ∃ b o, A = some ⟨b, o, none⟩)
theorem RdC.nil (w : World) (A : Option Addr) (c : Nat) : RdC w (.slice A 0 c) [] := ⟨A, c, rfl, fun h => absurd h (by simp)⟩

/-- a slice of uint64 is one cell -/
theorem RdU.one' {w : World} {v : Value} {xs : List Int} (h : RdU w v xs) : v.oneCell' = true := by
  obtain ⟨A, c, e, _⟩ := h; subst e; rfl

/-- the cells cs hold the entries l, their points as they stand in w -/
def CellsL (w : World) : List En → List Value → Prop
  | [], cs => cs = []
  | e :: l, cs => ∃ u ds, cs = u :: .int .u64 (e.v : Nat) :: ds ∧ RdU w u (pti e.p) ∧ CellsL w l ds
def CellsE (w : World) (cs : List Value) (l : List En) : Prop := CellsL w l cs
theorem CellsE.nil (w : World) : CellsE w [] [] := rfl
theorem CellsE.length {w : World} {cs : List Value} {l : List En} (h : CellsE w cs l) : cs.length = l.length * 2 := by
  induction l generalizing cs with
  | nil => obtain rfl : cs = [] := h; rfl
  | cons e l ih => obtain ⟨u, ds, rfl, _, h⟩ := h; have := ih h; simp; omega
theorem CellsE.append {w : World} {cs ds : List Value} {l m : List En} (h : CellsE w cs l) (k : CellsE w ds m) : CellsE w (cs ++ ds) (l ++ m) := by
  induction l generalizing cs with
  | nil => obtain rfl : cs = [] := h; exact k
  | cons e l ih => obtain ⟨u, ds, rfl, hu, h⟩ := h; exact ⟨u, _, rfl, hu, ih h⟩
theorem CellsE.one {w : World} {u : Value} {p : List Nat} (v : Nat) (h : RdU w u (pti p)) : CellsE w [u, .int .u64 v] [⟨p, v⟩] := ⟨u, [], rfl, h, rfl⟩
theorem CellsE.keep {w w' : World} {cs : List Value} {l : List En} (h : CellsE w cs l) (hk : ∀ a x, w.cell? a = some x → w'.cell? a = some x) : CellsE w' cs l := by
  induction l generalizing cs with
  | nil => exact h
  | cons e l ih => obtain ⟨u, ds, rfl, hu, h⟩ := h; exact ⟨u, ds, rfl, hu.keep hk, ih h⟩
theorem CellsE.oneCell {w : World} {cs : List Value} {l : List En} (h : CellsE w cs l) : ∀ u ∈ cs, u.oneCell' = true := by
  induction l generalizing cs with
  | nil => obtain rfl : cs = [] := h; intro u hu; simp at hu
  | cons e l ih =>
    obtain ⟨u, ds, rfl, hu, h⟩ := h
    intro y hy
    rcases List.mem_cons.1 hy with rfl | hy
    · exact RdU.one' hu
    · rcases List.mem_cons.1 hy with rfl | hy
      · rfl
      · exact ih h y hy
theorem CellsE.at {w w' : World} {cs : List Value} {l : List En} (h : CellsE w cs l) (hk : ∀ a x, w.cell? a = some x → w'.cell? a = some x) {b o : Nat} (hc : ∀ j (h : j < cs.length), w'.cell? ⟨b, o + j, none⟩ = some cs[j]) :
    ∀ j (h : j < l.length), EnAt w' b (o + j * 2) l[j] := by
  induction l generalizing cs o with
  | nil => intro j hj; simp at hj
  | cons e l ih =>
    obtain ⟨u, ds, rfl, hu, h⟩ := h
    · intro j hj
      cases j with
      | zero =>
        have c0 := hc 0 (by simp)
        have c1 := hc 1 (by simp)
        simp only [List.getElem_cons_zero, List.getElem_cons_succ, Nat.add_zero] at c0 c1
        simp only [List.getElem_cons_zero, Nat.zero_mul, Nat.add_zero]
        exact ⟨u, c0, hu.keep hk, c1⟩
      | succ j =>
        have := ih h (o := o + 2) (fun i hi => by
          have := hc (i + 2) (by simpa using hi)
          simp only [List.getElem_cons_succ] at this
          rw [show o + 2 + i = o + (i + 2) by omega]; exact this) j (by simpa using hj)
        simp only [List.getElem_cons_succ]
        rw [show o + (j + 1) * 2 = o + 2 + j * 2 by omega]; exact this
/-- what is read can be laid elsewhere -/
theorem cellsE_of {w : World} {b : Nat} {l : List En} {o : Nat} (h : ∀ j (h : j < l.length), EnAt w b (o + j * 2) l[j]) : ∃ cs, CellsE w cs l ∧ ∀ j u, cs[j]? = some u → w.cell? ((⟨b, o, none⟩ : Addr).add j) = some u := by
  induction l generalizing o with
  | nil => exact ⟨[], rfl, fun j u h => by simp at h⟩
  | cons e l ih =>
    obtain ⟨cs, i1, i2⟩ := ih (o := o + 2) (fun j hj => by
      have := h (j + 1) (by simpa using hj)
      rw [show o + 2 + j * 2 = o + (j + 1) * 2 by omega]
      simpa using this)
    have h0 := h 0 (by simp)
    simp only [Nat.zero_mul, Nat.add_zero, List.getElem_cons_zero] at h0
    obtain ⟨v, c0, hv, c1⟩ := h0
    have key : ∀ (o j : Nat), (⟨b, o, none⟩ : Addr).add j = ⟨b, o + j, none⟩ := fun o j => by
      unfold Addr.add; split
      · rename_i h; subst h; rfl
      · rfl
    refine ⟨v :: .int .u64 (e.v : Nat) :: cs, ⟨v, cs, rfl, hv, i1⟩, fun j u hj => ?_⟩
    rw [key]
    match j with
    | 0 => simp at hj; subst hj; exact c0
    | 1 => simp at hj; subst hj; exact c1
    | j + 2 =>
      simp only [List.getElem?_cons_succ] at hj
      have := i2 j u hj
      rw [key] at this
      rw [show o + (j + 2) = o + 2 + j by omega]; exact this

/-- v is a row of the call's own (the call began in W) that holds the entries l -/
def OwnE (W w : World) (v : Value) (l : List En) : Prop := ∃ cs, w.ownsRow W.heap.size 180 2 v l.length cs ∧ CellsE W cs l
theorem OwnE.rd {W w : World} {v : Value} {l : List En} (h : OwnE W w v l) (hb : Below W.heap.size W w) : RdE w v l := by
  obtain ⟨cs, ho, hc⟩ := h
  obtain ⟨h1, h2⟩ := ho
  rcases h2 with ⟨rfl, h0⟩ | ⟨g, cap, cur, rfl, hg, hh, hcap, hm, hs, ht⟩
  · exact ⟨none, 0, by rw [h0], ⟨by omega, Nat.zero_le _, fun h => absurd h (by omega)⟩, fun hp => absurd hp (by omega)⟩
  · refine ⟨_, _, rfl, ⟨hcap, hm, fun h => ⟨g, 0, rfl⟩⟩, fun hp => ⟨g, 0, rfl, hc.at (Below.keeps hb) fun j hj => ?_⟩⟩
    have h3 : cs[j]? = some cs[j] := List.getElem?_eq_getElem hj
    have h4 : j < l.length * 2 := by omega
    rw [← h3, ← ht, List.getElem?_take_of_lt h4, World.cell?]
    simp only [hh, Nat.zero_add]
    simp
theorem OwnE.nil (W w : World) : OwnE W w (.slice none 0 0) [] := ⟨[], World.ownsRow_nil _ _ _ _, rfl⟩
theorem entryInfo : (Try.prog.info? 180).map (fun i => (i.zero, i.size, i.bytes)) = some (some (.agg #[.slice none 0 0, .int .u64 0]), 2, 32) := by kernel_rfl
theorem changeInfo : (Try.prog.info? 114).map (fun i => (i.zero, i.size, i.bytes)) = some (some (.agg #[.slice none 0 0, .bool false, .bool false, .int .u64 0, .int .u64 0]), 5, 48) := by kernel_rfl

/-- what is appended: a slice whose cells are news -/
def Src (w : World) (size m : Nat) (x : Value) (news : List Value) : Prop :=
  news.length = m * size ∧ (∀ u ∈ news, u.oneCell' = true) ∧ ∃ ao c, x = .slice ao m c ∧ (ao = none → m = 0 ∧ c = 0) ∧ ∀ ad, ao = some ad → ∀ j u, news[j]? = some u → w.cell? (ad.add j) = some u
theorem ownBlock_base {w : World} {base : Nat} {e : TypeId} {size n : Nat} {v : Value} {xs : List Value} (h : w.ownsRow base e size v n xs) : ∀ k, v.ownBlock = some k → base ≤ k := fun k hk => (h.lt k hk).1
theorem run_append_src {P : Program} (w : World) (base : Nat) (t ty e : TypeId) (z : Value) (size bytes : Nat) (ht : P.underlying t = some (.slice e)) (hinfo : (P.info? e).map (fun i => (i.zero, i.size, i.bytes)) = some (some z, size, bytes))
    (hzs : z.cells.size = size) (hsz : 0 < size) (v : Value) (n : Nat) (xs : List Value) (hown : w.ownsRow base e size v n xs) (x : Value) (m : Nat) (news : List Value) (hx : Src w size m x news)
    (h63 : n + m ≤ maxLen) (hbytes : (n + m) * bytes ≤ 140737488355328) (hbase : base ≤ w.heap.size) :
    ∃ v' w', (Builtin.append_ #[t, t] ty #[v, x]).run P w = .ok v' w' ∧ w'.ownsRow base e size v' (n + m) (xs ++ news) ∧ w.grownBy w' v.ownBlock := by
  obtain ⟨i, hi, hz0, hz1, hz2⟩ := info_parts hinfo
  obtain ⟨hl, h1, ao, c, rfl, hnone, hc⟩ := hx
  cases ao with
  | some ad =>
    obtain ⟨v', w', a1, a2, a3, _⟩ := run_append_own (P := P) w base t ty e i z size bytes ht hi hz0 hz1 hz2 hzs hsz v n xs hown ad m c news hl (hc ad rfl) h1 h63 hbytes hbase
    exact ⟨v', w', a1, a2, a3⟩
  | none =>
    obtain ⟨rfl, rfl⟩ := hnone rfl
    obtain rfl : news = [] := List.eq_nil_of_length_eq_zero (by simpa using hl)
    exact ⟨v, w, run_append_owned_none (P := P) (w := w) base t ty e i size ht hi v n xs hown, by simpa using hown, World.grownBy.refl _ _⟩
/-- onto an empty literal: nothing old is touched -/
theorem run_append_lit {P : Program} (w : World) (base : Nat) (t ty e : TypeId) (z : Value) (size bytes : Nat) (ht : P.underlying t = some (.slice e)) (hinfo : (P.info? e).map (fun i => (i.zero, i.size, i.bytes)) = some (some z, size, bytes))
    (hzs : z.cells.size = size) (hsz : 0 < size) (g : Nat) (hown : w.ownsRow base e size (.slice (some ⟨g, 0, none⟩) 0 0) 0 []) (x : Value) (m : Nat) (news : List Value) (hx : Src w size m x news)
    (h63 : m ≤ maxLen) (hbytes : m * bytes ≤ 140737488355328) (hbase : base ≤ w.heap.size) :
    ∃ v' w', (Builtin.append_ #[t, t] ty #[.slice (some ⟨g, 0, none⟩) 0 0, x]).run P w = .ok v' w' ∧ w'.ownsRow base e size v' m news ∧ Below w.heap.size w w' := by
  obtain ⟨i, hi, hz0, hz1, hz2⟩ := info_parts hinfo
  obtain ⟨hl, h1, ao, c, rfl, hnone, hc⟩ := hx
  cases ao with
  | some ad =>
    by_cases hm : m = 0
    · subst hm
      obtain rfl : news = [] := List.eq_nil_of_length_eq_zero (by simpa using hl)
      have := run_append_room_cells (P := P) w t ty e i ht hi g 0 0 0 ad 0 c [] (by simp) (fun j u h => by simp at h) (fun u h => by simp at h) (Nat.le_refl _) (fun j h => by simp at h) (fun j h => by simp at h)
      exact ⟨_, _, this, hown, Below.refl _ _⟩
    · obtain ⟨v', w', a1, a2, a3⟩ := run_append_arg_grows (P := P) w t ty e i z size bytes ht hi hz0 hz1 hz2 hzs hsz ⟨g, 0, none⟩ 0 0 [] (by simp) (fun j u h => by simp at h) ad m c news hl (hc ad rfl) (by omega) (by simpa using h63) (by simpa using hbytes)
      refine ⟨v', w', a1, ?_, (Below.refl _ _).grown a3 (Nat.le_refl _) (fun k h => by cases h)⟩
      rw [Nat.zero_add, List.nil_append] at a2
      obtain ⟨b1, b2⟩ := a2
      refine ⟨b1, ?_⟩
      rcases b2 with b2 | ⟨g', cap, cur, q1, q2, q3⟩
      · exact .inl b2
      · exact .inr ⟨g', cap, cur, q1, Nat.le_trans hbase q2, q3⟩
  | none =>
    obtain ⟨rfl, rfl⟩ := hnone rfl
    obtain rfl : news = [] := List.eq_nil_of_length_eq_zero (by simpa using hl)
    exact ⟨_, w, run_append_owned_none (P := P) (w := w) base t ty e i size ht hi _ 0 [] hown, by simpa using hown, Below.refl _ _⟩

/-- entries to be appended -/
def SrcE (W w : World) (x : Value) (m : List En) : Prop := ∃ cs, CellsE W cs m ∧ Src w 2 m.length x cs
theorem RdE.src {W w : World} {x : Value} {m : List En} (h : RdE W x m) (hb : Below W.heap.size W w) : SrcE W w x m := by
  obtain ⟨A, c, rfl, hcap, hm⟩ := h
  by_cases h0 : 0 < m.length
  · obtain ⟨b, o, rfl, hc⟩ := hm h0
    obtain ⟨cs, c1, c2⟩ := cellsE_of hc
    exact ⟨cs, c1, c1.length, c1.oneCell, _, c, rfl, (fun h => by cases h), fun ad had j u hj => by injection had with had; subst had; exact Below.keeps hb _ _ (c2 j u hj)⟩
  · obtain rfl : m = [] := List.eq_nil_of_length_eq_zero (by omega)
    have hA0 : A = none → c = 0 := fun h => by
      by_cases hc : 0 < c
      · obtain ⟨b, o, e⟩ := hcap.2.2 hc
        rw [h] at e; cases e
      · omega
    exact ⟨[], rfl, by simp, fun u hu => by simp at hu, A, c, rfl, fun h => ⟨rfl, hA0 h⟩, fun ad had j u hj => by simp at hj⟩
theorem SrcE.one {W w : World} {b c : Nat} {u : Value} {p : List Nat} {v : Nat} (h0 : w.cell? ⟨b, 0, none⟩ = some u) (hu : RdU W u (pti p)) (h1 : w.cell? ⟨b, 1, none⟩ = some (.int .u64 v)) : SrcE W w (.slice (some ⟨b, 0, none⟩) 1 c) [⟨p, v⟩] :=
  ⟨[u, .int .u64 v], CellsE.one v hu, rfl, (CellsE.one v hu).oneCell, _, c, rfl, (fun h => by cases h), fun ad had j x hj => by
    injection had with had; subst had
    match j with
    | 0 => simp at hj; subst hj; simpa [Addr.add] using h0
    | 1 => simp at hj; subst hj; simpa [Addr.add] using h1
    | j + 2 => simp at hj⟩
/-- reslicing -/
theorem cut_addr {A : Option Addr} {b o k c s : Nat} (h : A = some ⟨b, o, none⟩) (hk : k < c) : (if c = k then A else A.map (·.add (k * s))) = some ⟨b, o + k * s, none⟩ := by
  rw [if_neg (by omega), h]
  simp only [Option.map_some, Addr.add]
  split
  · rename_i h0; rw [h0]; rfl
  · rfl
theorem RdE.drop {w : World} {A : Option Addr} {c : Nat} {l : List En} (h : RdE w (.slice A l.length c) l) (k : Nat) (hk : k ≤ l.length) :
    RdE w (.slice (if c = k then A else A.map (·.add (k * 2))) (l.length - k) (c - k)) (l.drop k) := by
  obtain ⟨A', c', e, ⟨h1, h2, h3⟩, hm⟩ := h
  injection e with e1 _ e2
  subst e1 e2
  refine ⟨_, _, by rw [List.length_drop], ⟨by rw [List.length_drop]; omega, by omega, fun h => ?_⟩, fun hp => ?_⟩
  · obtain ⟨b, o, ha⟩ := h3 (by omega)
    exact ⟨b, o + k * 2, cut_addr ha (by omega)⟩
  · rw [List.length_drop] at hp
    obtain ⟨b, o, ha, hc⟩ := hm (by omega)
    refine ⟨b, o + k * 2, cut_addr ha (by omega), fun j hj => ?_⟩
    rw [List.length_drop] at hj
    have := hc (k + j) (by omega)
    rw [List.getElem_drop, show o + k * 2 + j * 2 = o + (k + j) * 2 by omega]
    exact this
theorem RdE.take {w : World} {A : Option Addr} {c : Nat} {l : List En} (h : RdE w (.slice A l.length c) l) (k : Nat) (hk : k ≤ l.length) : RdE w (.slice A k c) (l.take k) := by
  obtain ⟨A', c', e, ⟨h1, h2, h3⟩, hm⟩ := h
  injection e with e1 _ e2
  subst e1 e2
  refine ⟨A, c, by rw [List.length_take, Nat.min_eq_left hk], ⟨by rw [List.length_take]; omega, h2, h3⟩, fun hp => ?_⟩
  rw [List.length_take] at hp
  obtain ⟨b, o, ha, hc⟩ := hm (by omega)
  refine ⟨b, o, ha, fun j hj => ?_⟩
  rw [List.length_take] at hj
  have := hc j (by omega)
  rw [List.getElem_take]
  exact this

theorem run_append_E (W w : World) (v x : Value) (l m : List En) (hown : OwnE W w v l) (hx : SrcE W w x m) (hb : Below W.heap.size W w) (hlen : l.length + m.length ≤ 100000) (ty : TypeId) :
    ∃ v' w', (Builtin.append_ #[95, 95] ty #[v, x]).run Try.prog w = .ok v' w' ∧ OwnE W w' v' (l ++ m) ∧ Below W.heap.size W w' := by
  obtain ⟨cs, ho, hc⟩ := hown
  obtain ⟨ds, hd, hx⟩ := hx
  obtain ⟨v', w', a1, a2, a3⟩ := run_append_src (P := Try.prog) w W.heap.size 95 ty 180 _ 2 32 Try.underlying95 entryInfo rfl (by omega) v l.length cs ho x m.length ds hx (by simp only [maxLen]; omega) (by omega) hb.size
  exact ⟨v', w', a1, ⟨_, by rw [List.length_append]; exact a2, hc.append hd⟩, hb.grown a3 hb.size (ownBlock_base ho)⟩
theorem wpList_append_E {w : World} {ops : Array Oper} {rest : List Oper} {o : Oper} {a : Act} {Q : Exit → Act → World → Prop} (hgd : o.guard = none) (s x : Operand)
    (ho : o.op = .call { callee := .builtin .append, args := #[s, x], argTypes := #[95, 95] }) (W : World) (l m : List En)
    (hown : OwnE W w (a.eval s) l) (hx : SrcE W w (a.eval x) m) (hb : Below W.heap.size W w) (hlen : l.length + m.length ≤ 100000)
    (h : ∀ v' w', OwnE W w' v' (l ++ m) → Below W.heap.size W w' → wpList Try.prog ops Q rest (a.put o.dst v') w') : wpList Try.prog ops Q (o :: rest) a w := by
  refine wpList_plain hgd fun K hK => ?_
  obtain ⟨v', w', hrun, r1, r2⟩ := run_append_E W w _ _ l m hown hx hb hlen o.type
  unfold Oper.wp
  simp [execOp, ho, resolve, invoke, builtin, hrun, Result.andThen]
  exact hK _ _ (h v' w' r1 r2)
theorem OwnE.alloc {W w : World} {v : Value} {l : List En} (h : OwnE W w v l) (o : Obj) : OwnE W (w.alloc o) v l := let ⟨cs, h1, h2⟩ := h; ⟨cs, h1.alloc o, h2⟩
theorem OwnE.drew {W w : World} {v : Value} {l : List En} (h : OwnE W w v l) : OwnE W w.drew v l := h
theorem OwnE.drewN {W w : World} {v : Value} {l : List En} (h : OwnE W w v l) (n : Nat) : OwnE W (w.drewN n) v l := h
theorem OwnE.lit {W w : World} (hb : W.heap.size ≤ w.heap.size) {g : Nat} (hg : g = w.heap.size) : OwnE W (w.alloc (.cells #[] 180)) (.slice (some ⟨g, 0, none⟩) 0 0) [] := by
  subst hg; exact ⟨[], World.ownsRow_lit w #[] 0 hb (by simp [maxLen]) (by simp), rfl⟩
theorem OwnE.below {W w w' : World} {v : Value} {l : List En} (h : OwnE W w v l) (hb : Below w.heap.size w w') : OwnE W w' v l := by
  obtain ⟨cs, ⟨h1, h2⟩, h3⟩ := h
  refine ⟨cs, ⟨h1, ?_⟩, h3⟩
  rcases h2 with h2 | ⟨g, cap, cur, q1, q2, q3, q4⟩
  · exact .inl h2
  · exact .inr ⟨g, cap, cur, q1, q2, (hb.block g (Array.getElem?_eq_some_iff.1 q3).1).trans q3, q4⟩
end Go.Proofs.Ytlmgabhdeeehmaa
