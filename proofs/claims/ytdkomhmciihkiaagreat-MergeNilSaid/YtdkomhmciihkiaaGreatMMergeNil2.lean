/-
  Texts that the proof of MergeNil leans on, part 2: contracts of functions, and plain laws.
-/
import Derived.Test.YtdkomhmciihkiaaGreatMMergeNil1
import Derived.Laws.CopyOwn
import Derived.Lib.AppendZerosOnto
import Derived.Lib.Overlaps
/-! SlC -/
namespace Go.Proofs.YtdkomhmciihkiaaGreat
open Go.RowKit
set_option linter.unusedVariables false
set_option linter.unusedSimpArgs false

theorem kr_lt {w : World} {b : Nat} {o : Obj} (h : w.heap[b]? = some o) : b < w.heap.size := (Array.getElem?_eq_some_iff.1 h).1
theorem kr_set {w : World} {b k : Nat} {cur : Array Value} {u : Value} {t : TypeId} {fr : Nat × Nat} (h : w.heap[b]? = some (.cells cur t fr)) : (w.setCell ⟨b, k, none⟩ u).heap[b]? = some (.cells (cur.setIfInBounds k u) t fr) := by
  have hlt := kr_lt h
  have h' : w.heap[b] = .cells cur t fr := by simpa [Array.getElem?_eq_getElem hlt] using h
  show (w.heap.modify b _)[b]? = _
  rw [Array.getElem?_eq_getElem (by simpa using hlt), Array.getElem_modify_self, h']
  rfl
theorem kr_far {w : World} {b g k : Nat} {u : Value} (h : b ≠ g) : (w.setCell ⟨g, k, none⟩ u).heap[b]? = w.heap[b]? := by
  show (w.heap.modify g _)[b]? = _
  rw [Array.getElem?_modify, if_neg (fun e => h e.symm)]
/-- block g: a row of cells of the call's own with room for n, the first ones are m -/
def KR (w : World) (g n : Nat) (m : List Cl) : Prop := ∃ cur, w.heap[g]? = some (.cells cur 324 (0, 0)) ∧ cur.size = n * 3 ∧ m.length ≤ n ∧ ∀ j (h : j < m.length), cur[j * 3]? = some (.int .i64 (m[j].a : Nat)) ∧ cur[j * 3 + 1]? = some (pv m[j].x) ∧ cur[j * 3 + 2]? = some (.bool m[j].has)
theorem KR.lt {w : World} {g n : Nat} {m : List Cl} (h : KR w g n m) : g < w.heap.size := let ⟨_, h1, _⟩ := h; kr_lt h1
theorem KR.le {w : World} {g n : Nat} {m : List Cl} (h : KR w g n m) : m.length ≤ n := let ⟨_, _, _, h1, _⟩ := h; h1
theorem KR.stays {w w' : World} {g n : Nat} {m : List Cl} (h : KR w g n m) (hk : w'.heap[g]? = w.heap[g]?) : KR w' g n m := let ⟨cur, h1, h2⟩ := h; ⟨cur, hk.trans h1, h2⟩
theorem KR.below {w w' : World} {g n : Nat} {m : List Cl} (h : KR w g n m) (hb : Below w.heap.size w w') : KR w' g n m := h.stays (hb.block g h.lt)
theorem KR.far {w : World} {g n b k : Nat} {m : List Cl} {u : Value} (h : KR w g n m) (hb : g ≠ b) : KR (w.setCell ⟨b, k, none⟩ u) g n m := h.stays (kr_far hb)
theorem KR.room {w : World} {g n : Nat} {m : List Cl} (h : KR w g n m) (j : Nat) (hj : j < n * 3) : ∃ v, w.cell? ⟨g, j, none⟩ = some v := by
  obtain ⟨cur, h1, h2, h3⟩ := h
  exact ⟨cur[j]'(by omega), by simp [World.cell?, h1, h2, hj]⟩
theorem KR.thaw {w : World} {g n : Nat} {m : List Cl} (h : KR w g n m) (j : Nat) : w.frozen? ⟨g, j, none⟩ = false := by
  obtain ⟨cur, h1, h2, h3⟩ := h
  simp [World.frozen?, h1]
theorem KR.at' {w : World} {g n : Nat} {m : List Cl} (h : KR w g n m) (j : Nat) (hj : j < m.length) : KAt w g (j * 3) m[j] := by
  obtain ⟨cur, h1, h2, h3, h4⟩ := h
  obtain ⟨a1, a2, a3⟩ := h4 j hj
  exact ⟨by simp [World.cell?, h1, a1], by simp [World.cell?, h1, a2], by simp [World.cell?, h1, a3]⟩
theorem KR.rd {w : World} {g n : Nat} {m : List Cl} (h : KR w g n m) (hn : n ≤ maxLen) : RdK w (.slice (some ⟨g, 0, none⟩) m.length n) m :=
  ⟨_, n, rfl, ⟨h.le, hn⟩, fun _ => ⟨g, 0, rfl, fun j hj => by rw [Nat.zero_add]; exact h.at' j hj⟩⟩
theorem KR.ty {w : World} {g n : Nat} {m : List Cl} (h : KR w g n m) (o a b : Nat) : TyB w (.slice (some ⟨g, o, none⟩) a b) 324 := let ⟨_, h1, _⟩ := h; .at h1
theorem KR.setA {w : World} {g n : Nat} {m : List Cl} (h : KR w g n m) (j a : Nat) (hj : j < m.length) : KR (w.setCell ⟨g, j * 3, none⟩ (.int .i64 (a : Nat))) g n (m.set j { m[j] with a := a }) := by
  obtain ⟨cur, h1, h2, h3, h4⟩ := h
  refine ⟨_, kr_set h1, by simpa using h2, by simpa using h3, fun i hi => ?_⟩
  rw [List.length_set] at hi
  obtain ⟨a1, a2, a3⟩ := h4 i hi
  by_cases e : i = j
  · subst e
    simp only [List.getElem_set_self]
    refine ⟨Array.getElem?_setIfInBounds_self_of_lt (by omega), ?_, ?_⟩
    · rw [Array.getElem?_setIfInBounds_ne (by omega)]; exact a2
    · rw [Array.getElem?_setIfInBounds_ne (by omega)]; exact a3
  · rw [List.getElem_set_ne (by omega)]
    refine ⟨?_, ?_, ?_⟩ <;> rw [Array.getElem?_setIfInBounds_ne (by omega)] <;> assumption
theorem KR.setX {w : World} {g n : Nat} {m : List Cl} (h : KR w g n m) (j : Nat) (x : Option Nat) (hj : j < m.length) : KR (w.setCell ⟨g, j * 3 + 1, none⟩ (pv x)) g n (m.set j { m[j] with x := x }) := by
  obtain ⟨cur, h1, h2, h3, h4⟩ := h
  refine ⟨_, kr_set h1, by simpa using h2, by simpa using h3, fun i hi => ?_⟩
  rw [List.length_set] at hi
  obtain ⟨a1, a2, a3⟩ := h4 i hi
  by_cases e : i = j
  · subst e
    simp only [List.getElem_set_self]
    refine ⟨?_, Array.getElem?_setIfInBounds_self_of_lt (by omega), ?_⟩
    · rw [Array.getElem?_setIfInBounds_ne (by omega)]; exact a1
    · rw [Array.getElem?_setIfInBounds_ne (by omega)]; exact a3
  · rw [List.getElem_set_ne (by omega)]
    refine ⟨?_, ?_, ?_⟩ <;> rw [Array.getElem?_setIfInBounds_ne (by omega)] <;> assumption
theorem KR.setH {w : World} {g n : Nat} {m : List Cl} (h : KR w g n m) (j : Nat) (x : Bool) (hj : j < m.length) : KR (w.setCell ⟨g, j * 3 + 2, none⟩ (.bool x)) g n (m.set j { m[j] with has := x }) := by
  obtain ⟨cur, h1, h2, h3, h4⟩ := h
  refine ⟨_, kr_set h1, by simpa using h2, by simpa using h3, fun i hi => ?_⟩
  rw [List.length_set] at hi
  obtain ⟨a1, a2, a3⟩ := h4 i hi
  by_cases e : i = j
  · subst e
    simp only [List.getElem_set_self]
    refine ⟨?_, ?_, Array.getElem?_setIfInBounds_self_of_lt (by omega)⟩
    · rw [Array.getElem?_setIfInBounds_ne (by omega)]; exact a1
    · rw [Array.getElem?_setIfInBounds_ne (by omega)]; exact a2
  · rw [List.getElem_set_ne (by omega)]
    refine ⟨?_, ?_, ?_⟩ <;> rw [Array.getElem?_setIfInBounds_ne (by omega)] <;> assumption
theorem KR.set3 {w : World} {g n : Nat} {m : List Cl} (h : KR w g n m) (j : Nat) (c : Cl) (hj : j < m.length) :
    KR (((w.setCell ⟨g, j * 3, none⟩ (.int .i64 (c.a : Nat))).setCell ⟨g, j * 3 + 1, none⟩ (pv c.x)).setCell ⟨g, j * 3 + 2, none⟩ (.bool c.has)) g n (m.set j c) := by
  have := ((h.setA j c.a hj).setX j c.x (by simpa using hj)).setH j c.has (by simpa using hj)
  simpa using this
theorem OwnK.kr {W w : World} {v : Value} {l : List Cl} (h : OwnK W w v l) (h0 : l ≠ []) : ∃ g n, v = .slice (some ⟨g, 0, none⟩) l.length n ∧ W.heap.size ≤ g ∧ KR w g n l ∧ n ≤ maxLen := by
  obtain ⟨h1, h2⟩ := h
  rcases h2 with ⟨rfl, h0'⟩ | ⟨g, cap, cur, rfl, hg, hh, hcap, hm, hs, ht⟩
  · exact absurd (List.length_eq_zero_iff.1 h0') h0
  · refine ⟨g, cap, rfl, hg, ⟨cur, hh, hs, hcap, fun j hj => ?_⟩, hm⟩
    have hl := cellsK_length l
    have hat := KAt_of (w := w) (b := g) (o := 0) (l := l) rfl (fun j hj => by
      have h3 : (cellsK l)[j]? = some (cellsK l)[j] := List.getElem?_eq_getElem hj
      have h4 : j < l.length * 3 := by rw [cellsK_length] at hj; exact hj
      rw [← h3, ← ht, List.getElem?_take_of_lt h4, World.cell?]
      simp only [hh, Nat.zero_add]
      simp) j hj
    obtain ⟨a1, a2, a3⟩ := hat
    simp only [World.cell?, hh, Nat.zero_add] at a1 a2 a3
    exact ⟨by simpa using a1, by simpa using a2, by simpa using a3⟩
theorem OwnK.ty {W w : World} {v : Value} {l : List Cl} (h : OwnK W w v l) : TyB w v 324 := by
  obtain ⟨h1, h2⟩ := h
  rcases h2 with ⟨rfl, _⟩ | ⟨g, cap, cur, rfl, hg, hh, _⟩
  · exact TyB.nilS _ _ _ _
  · exact TyB.at hh
theorem KR.own {W w : World} {g n : Nat} {m : List Cl} (h : KR w g n m) (hg : W.heap.size ≤ g) (hn : n ≤ maxLen) : OwnK W w (.slice (some ⟨g, 0, none⟩) m.length n) m := by
  have hle := h.le
  obtain ⟨cur, h1, h2, h3, h4⟩ := h
  refine ⟨cellsK_length m, .inr ⟨g, n, cur, rfl, hg, h1, hle, hn, h2, ?_⟩⟩
  apply List.ext_getElem?
  intro i
  have hl := cellsK_length m
  by_cases hi : i < m.length * 3
  · rw [List.getElem?_take_of_lt hi]
    have hj : i / 3 < m.length := by omega
    obtain ⟨a1, a2, a3⟩ := h4 (i / 3) hj
    have e0 : ∀ t (ht : t < 3), (cellsK m)[i / 3 * 3 + t]? = (m[i / 3].cells)[t]? := by
      intro t ht
      have h1 : ((cellsK m).drop (i / 3 * 3))[t]? = (cellsK m)[i / 3 * 3 + t]? := List.getElem?_drop
      rw [← h1, cellsK_drop, List.drop_eq_getElem_cons hj, cellsK_cons]
      unfold Cl.cells
      match t, ht with
      | 0, _ => rfl
      | 1, _ => rfl
      | 2, _ => rfl
    have hm : i = i / 3 * 3 + i % 3 := by omega
    have h3 : i % 3 = 0 ∨ i % 3 = 1 ∨ i % 3 = 2 := by omega
    rw [hm, Array.getElem?_toList]
    rcases h3 with h3 | h3 | h3 <;> rw [h3, e0 _ (by omega)]
    · exact a1
    · exact a2
    · exact a3
  · rw [List.getElem?_eq_none (by rw [List.length_take]; omega), List.getElem?_eq_none (by omega)]
theorem keepsN {n : Nat} {w w' : World} (h : Below n w w') (hn : n = w.heap.size) : ∀ a x, w.cell? a = some x → w'.cell? a = some x := by subst hn; exact Below.keeps h
def zeroK : Cl := ⟨0, none, false⟩
theorem wpList_make_K {w : World} {ops : Array Oper} {rest : List Oper} {o : Oper} {a : Act} {Q : Exit → Act → World → Prop} (hg : o.guard = none) (l c : Operand) (hop : o.op = .makeSlice 317 l c) (n : Nat)
    (hl : a.eval l = .int .i64 ((n : Nat) : Int)) (hc : a.eval c = .int .i64 ((n : Nat) : Int)) (hn : n ≤ 65536)
    (hK : ∀ w', KR w' w.heap.size n (List.replicate n zeroK) → Below w.heap.size w w' → wpList Tryz.prog ops Q rest (a.put o.dst (.slice (some ⟨w.heap.size, 0, none⟩) n n)) w') : wpList Tryz.prog ops Q (o :: rest) a w := by
  obtain ⟨i, hi, hz0, hz1, hz2⟩ := info_parts cellInfo
  refine wpList_make_full w hg l c 317 hop w.heap.size 324 i _ 3 Tryz.underlying317 hi hz0 hz1 .i64 .i64 _ _ n hl hc rfl rfl (by rw [hz2]; omega) (by simp only [maxLen]; omega) (Nat.le_refl _) fun w' hown hgr => hK w' ?_ ((Below.refl _ _).grown hgr (Nat.le_refl _) (fun k h => by cases h))
  obtain ⟨h1, h2⟩ := hown
  rcases h2 with ⟨h2, _⟩ | ⟨g, cap, cur, e, q2, q3, q4, q5, q6, q7⟩
  · cases h2
  · injection e with e1 e2 e3
    injection e1 with e1
    injection e1 with e1
    subst e1 e3
    refine ⟨cur, q3, q6, by simp, fun j hj => ?_⟩
    rw [List.length_replicate] at hj
    have key : ∀ t, t < 3 → cur[j * 3 + t]? = (Value.agg #[.int .i64 0, .pointer none, .bool false]).cells[t]? := by
      intro t ht
      have h3 : cur.toList[j * 3 + t]? = (madeCells (Value.agg #[.int .i64 0, .pointer none, .bool false]).cells (n * 3)).toList[j * 3 + t]? := by
        rw [← q7, List.getElem?_take_of_lt (by omega)]
      rw [Array.getElem?_toList, Array.getElem?_toList] at h3
      rw [h3]
      have h4 : (Value.agg #[.int .i64 0, .pointer none, .bool false]).cells = #[.int .i64 0, .pointer none, .bool false] := by simp [Value.cells]
      have h5 : j * 3 + t < n * 3 := by omega
      rw [h4]
      simp only [madeCells, Array.getElem?_map, Array.getElem?_range, h5, if_true, Option.map_some]
      rw [show (j * 3 + t) % (#[Value.int IntKind.i64 0, .pointer none, .bool false] : Array Value).size = t by show (j * 3 + t) % 3 = t; omega]
      match t, ht with
      | 0, _ => rfl
      | 1, _ => rfl
      | 2, _ => rfl
    have h4 : (Value.agg #[.int .i64 0, .pointer none, .bool false]).cells = #[.int .i64 0, .pointer none, .bool false] := by simp [Value.cells]
    rw [h4] at key
    rw [List.getElem_replicate]
    exact ⟨key 0 (by omega), key 1 (by omega), key 2 (by omega)⟩

set_option maxRecDepth 100000 in
theorem dense_any (k n : Nat) (w : World) (hk : k ≤ 16) (hn : n ≤ 100000) : Calls Tryz.prog 240 #[.int .i64 (k : Nat), .int .i64 (n : Nat)] w fun e w' => e = .returned (.bool (denseB k n)) ∧ w' = w := by
  have hp := pow_le k hk
  have hs : wrap64 ((2 : Int) ^ k) = ((2 ^ k : Nat) : Int) := by
    rw [show ((2 : Int) ^ k) = ((2 ^ k : Nat) : Int) from (Int.natCast_pow 2 k).symm]
    generalize 2 ^ k = N at *
    unfold wrap64; omega
  have hm : wrap64 (2 * (n : Int)) = ((2 * n : Nat) : Int) := by unfold wrap64; omega
  by_cases h6 : k ≤ 6
  · have h1 : (k : Int) ≤ 6 := by omega
    have h0 : (0 : Int) ≤ (k : Int) := by omega
    have HE := Lib.hid (show denseB k n = decide ((2 : Int) ^ k < 2 * (n : Int)) by
      rw [show ((2 : Int) ^ k) = ((2 ^ k : Nat) : Int) from (Int.natCast_pow 2 k).symm]
      unfold denseB; rw [decide_eq_true h6, Bool.true_and]; apply bool_ext; simp only [decide_eq_true_eq]
      clear hs
      generalize 2 ^ k = N at *
      omega)
    go_enter Tryz.func240, Tryz.ntmps240
    go_wp2_with fail
    go_ret
    exact ⟨by rw [HE.out] <;> rfl, rfl⟩
  · have h1 : ¬ (k : Int) ≤ 6 := by omega
    have HE := Lib.hid (show denseB k n = false by unfold denseB; simp [h6])
    go_enter Tryz.func240, Tryz.ntmps240
    go_wp2_with fail
    go_ret
    exact ⟨by rw [HE.out] <;> rfl, rfl⟩

/-- what kept hands back -/
def SlP (W : World) (k : Nat) (l : List (Nat × Nat)) (e : Ending) (w' : World) : Prop := ∃ g, e = .returned (.pointer (some ⟨g, 0, none⟩)) ∧ SlR w' g k l ∧ Below W.heap.size W w'
def dcell (N j : Nat) : List Cl := (List.range N).map fun t => ⟨if t < j then t else 0, none, false⟩
theorem dcell_len (N j : Nat) : (dcell N j).length = N := by unfold dcell; simp
theorem dcell_zero (N : Nat) : dcell N 0 = List.replicate N zeroK := by
  apply List.ext_getElem (by rw [dcell_len]; simp)
  intro i h1 h2
  simp [dcell, zeroK]
theorem dcell_set (N j : Nat) (h : j < N) : (dcell N j).set j { (dcell N j)[j]'(by rw [dcell_len]; exact h) with a := j } = dcell N (j + 1) := by
  apply List.ext_getElem (by rw [List.length_set, dcell_len, dcell_len])
  intro i h1 h2
  rw [dcell_len] at h2
  by_cases e : i = j
  · subst e; rw [List.getElem_set_self]; simp [dcell]
  · rw [List.getElem_set_ne (by omega)]
    simp only [dcell, List.getElem_map, List.getElem_range, Cl.mk.injEq, and_true]
    by_cases h3 : i < j
    · rw [if_pos h3, if_pos (by omega)]
    · rw [if_neg h3, if_neg (by omega)]
theorem dcell_all (N : Nat) : dcell N N = (List.range N).map (cellAt []) := by
  unfold dcell
  apply List.map_congr_left
  intro i hi
  rw [if_pos (List.mem_range.1 hi)]
  rfl
theorem cellAt_set {k : Nat} {l : List (Nat × Nat)} (h : Rw k l) (N j : Nat) (hj : j < l.length) (hN : l[j].1 < N) :
    ((List.range N).map (cellAt (l.take j))).set l[j].1 (takenC l[j]) = (List.range N).map (cellAt (l.take (j + 1))) := by
  have e0 : l.take (j + 1) = l.take j ++ [l[j]] := (List.take_append_getElem hj).symm
  apply List.ext_getElem (by simp)
  intro i h1 h2
  have hi : i < N := by simpa using h2
  have hl : ∀ n, Od.look ka (l.take (j + 1)) n = (Od.look ka (l.take j) n).or (if l[j].1 = n then some l[j] else none) := by
    intro n
    rw [e0]
    unfold Od.look
    rw [List.find?_append]
    congr 1
    rw [List.find?_singleton]
    simp [ka]
  by_cases e : i = l[j].1
  · subst e
    rw [List.getElem_set_self]
    simp only [List.getElem_map, List.getElem_range, cellAt, hl]
    have hn : Od.look ka (l.take j) l[j].1 = none := Od.look_eq_none fun x hx => by
      obtain ⟨t, ht, rfl⟩ := List.getElem_of_mem hx
      rw [List.length_take] at ht
      rw [List.getElem_take]
      have := List.pairwise_iff_getElem.1 h.asc t j (by omega) hj (by omega)
      show l[t].1 ≠ l[j].1
      have : l[t].1 < l[j].1 := this
      omega
    rw [hn]
    simp [takenC]
  · rw [List.getElem_set_ne (by omega)]
    simp only [List.getElem_map, List.getElem_range, cellAt, hl]
    rw [if_neg (by omega), Option.or_none]

set_option maxRecDepth 100000 in
set_option maxHeartbeats 2000000 in
theorem kept_any (k : Nat) (l : List (Nat × Nat)) (v : Value) (w : World) (hr : RdK w v (l.map takenC)) (hty : TyB w v 324) (hrw : Rw k l) (hk1 : 1 ≤ k) (hk16 : k ≤ 16) :
    Calls Tryz.prog 225 #[.int .i64 (k : Nat), v] w fun e w' => SlP w k l e w' := by
  have hN := hrw.len
  have hp := pow_le k hk16
  have HD := Lib.hid (fun w' => dense_any k l.length w' hk16 (by omega))
  have HS0 := Lib.hid (And.intro hrw (And.intro hk1 (And.intro hk16 (And.intro hp hN))))
  have HR := Lib.hid hr
  have HTY := Lib.hid hty
  clear hty
  obtain ⟨A, c, rfl, hl, hx⟩ := hr
  rw [List.length_map] at *
  have HX := Lib.hid hx
  clear hl hx hrw hk1 hN
  obtain ⟨N, hNk⟩ : ∃ N, 2 ^ k = N := ⟨_, rfl⟩
  have HS := HS0
  rw [hNk] at HS
  clear HS0
  cases hd : denseB k l.length with
  | false =>
    rw [hd] at HD
    have HL := Lib.hid (show lay k l = l.map takenC by unfold lay; rw [if_neg (by rw [hd]; simp)])
    clear hd
    go_enter Tryz.func225, Tryz.ntmps225
    go_wp2_with fail
    refine (HD.out _).mono ?_
    rintro e w1 ⟨rfl, rfl⟩
    go_wp2_with fail
    go_ret
    refine ⟨_, rfl, ⟨by simp [go_sem], by simp [go_sem], ⟨_, by simp [go_sem]; rfl, ?_⟩, HS.out.1, HS.out.2.1, HS.out.2.2.1, ⟨_, _, alloc_cells _ _⟩, ⟨_, by simp [go_sem]; rfl, ?_⟩⟩, (by repeat (first | exact Below.refl _ _ | (refine Below.drew ?_) | (refine below_drewN' ?_ _) | (refine below_alloc' ?_ _) | (refine Below.setCell ?_ (by first | exact Nat.le_refl _ | (simp; done) | (simp; omega)) _)))⟩
    · rw [HL.out]
      have := HR.out.below (w' := w.alloc (.cells #[.int .i64 (k : Nat), .int .i64 (l.length : Nat), .slice A l.length c] 319)) (by repeat (first | exact Below.refl _ _ | (refine Below.drew ?_) | (refine below_drewN' ?_ _) | (refine below_alloc' ?_ _) | (refine Below.setCell ?_ (by first | exact Nat.le_refl _ | (simp; done) | (simp; omega)) _)))
      exact this
    · exact HTY.out.below (by repeat (first | exact Below.refl _ _ | (refine Below.drew ?_) | (refine below_drewN' ?_ _) | (refine below_alloc' ?_ _) | (refine Below.setCell ?_ (by first | exact Nat.le_refl _ | (simp; done) | (simp; omega)) _)))
  | true =>
    rw [hd] at HD
    have HL := Lib.hid (show lay k l = (List.range N).map (cellAt l) by unfold lay; rw [if_pos hd, hNk])
    clear hd
    have HW0 := Lib.hid (show wrap64 ((2 : Int) ^ k) = ((N : Nat) : Int) by
      rw [show ((2 : Int) ^ k) = ((2 ^ k : Nat) : Int) from (Int.natCast_pow 2 k).symm, hNk]
      rw [hNk] at hp
      unfold wrap64; omega)
    go_enter Tryz.func225, Tryz.ntmps225
    go_wp2_with fail
    refine (HD.out _).mono ?_
    rintro e w1 ⟨rfl, rfl⟩
    go_wp2_with ((at_make; refine wpList_make_K rfl _ _ rfl N ?_ ?_ HS.out.2.2.2.1 ?_))
    · show Value.int .i64 (wrap64 ((2 : Int) ^ k)) = _; rw [HW0.out]
    · show Value.int .i64 (wrap64 ((2 : Int) ^ k)) = _; rw [HW0.out]
    intro w1 hk1 hb1
    have c0 : w1.cell? ⟨w.heap.size, 0, none⟩ = some (.int .i64 (k : Nat)) := keepsN hb1 (by simp) _ _ (by simp [go_sem])
    have c1 : w1.cell? ⟨w.heap.size, 1, none⟩ = some (.int .i64 (l.length : Nat)) := keepsN hb1 (by simp) _ _ (by simp [go_sem])
    have c2 : w1.cell? ⟨w.heap.size, 2, none⟩ = some (.slice A l.length c) := keepsN hb1 (by simp) _ _ (by simp [go_sem])
    have f2 : w1.frozen? ⟨w.heap.size, 2, none⟩ = false := by rw [hb1.frozen (by simp)]; simp [go_sem]
    have t1 : ∃ cur fr, w1.heap[w.heap.size]? = some (Obj.cells cur 319 fr) := ⟨_, _, (hb1.block _ (by simp)).trans (alloc_cells _ _)⟩
    have hB1 : Below w.heap.size w w1 := (show Below w.heap.size w _ from below_alloc' (Below.refl _ _) _).trans (hb1.mono (by simp))
    obtain ⟨H, hH⟩ : ∃ H, w.heap.size + 1 = H := ⟨_, rfl⟩
    rw [hH] at hk1
    obtain ⟨G, hG⟩ : ∃ G, w.heap.size = G := ⟨_, rfl⟩
    have hGl := World.block_lt_of_cell? w1 _ c2
    have HB := Lib.hid hB1
    have HK := Lib.hid hk1
    have HGH := Lib.hid (And.intro hG hH)
    rw [hG] at c0 c1 c2 f2 hGl t1
    have HT1 := Lib.hid t1
    clear t1
    have HC := Lib.hid (And.intro c0 (And.intro c1 c2))
    simp only [hH, hG]
    clear hk1 hb1 hB1 c0 c1
    go_wp2_with fail
    go_loopw [6, 32] (fun s6 s32 wr => ∃ j : Nat, j ≤ N ∧ s32 = .int .i64 j ∧ (wr.cell? ⟨G, 0, none⟩ = some (.int .i64 (k : Nat)) ∧ wr.cell? ⟨G, 1, none⟩ = some (.int .i64 (l.length : Nat)) ∧ wr.cell? ⟨G, 2, none⟩ = some (.slice (some ⟨H, 0, none⟩) N N)) ∧ KR wr H N (dcell N j) ∧ Below w.heap.size w wr ∧ ∃ cur fr, wr.heap[G]? = some (Obj.cells cur 319 fr)) (fun _ i _ => N - (intOf i).toNat)
    case atStart =>
      have hne : H ≠ G := by have := HGH.out; omega
      obtain ⟨d0, d1, d2⟩ := HC.out
      refine ⟨0, Nat.zero_le _, rfl, ⟨by simp [go_sem, d0], by simp [go_sem, d1], by simp [go_sem, d2]⟩, by rw [dcell_zero]; exact HK.out.far hne, ?_⟩
      exact ⟨HB.out.setCell (show w.heap.size ≤ G by have := HGH.out; omega) _, let ⟨_, _, h⟩ := HT1.out; ⟨_, _, kr_set h⟩⟩
    case round =>
      clear c2 f2 hGl
      obtain ⟨j, hj, rfl, ⟨c0, c1, c2⟩, hk, hb, ht⟩ := hrel
      have HT2 := Lib.hid ht
      clear ht
      have HB2 := Lib.hid hb
      have HK2 := Lib.hid hk
      have HC2 := Lib.hid (And.intro c0 c1)
      have hGl := World.block_lt_of_cell? wr _ c2
      have hHl := hk.lt
      by_cases hlt : j < N
      · have h3 : (j : Int) < N := by omega
        have h5 : (0 : Int) ≤ (j : Int) := by omega
        have HW := Lib.hid (show wrap64 ((j : Int) + 1) = ((j + 1 : Nat) : Int) by have := HS.out.2.2.2.1; unfold wrap64; omega)
        obtain ⟨u, hu⟩ := hk.room (j * 3) (by omega)
        have hf := hk.thaw (j * 3)
        clear c0 c1 hb hk
        go_wp2_with fail
        go_roundw
        case rel =>
          have hne : H ≠ G := by have := HGH.out; omega
          obtain ⟨d0, d1⟩ := HC2.out
          have hd := HK2.out.setA j j (by rw [dcell_len]; exact hlt)
          rw [dcell_set _ _ hlt] at hd
          refine ⟨j + 1, by omega, (by first | rw [HW.out] | rfl | simp), ⟨?_, ?_, ?_⟩, hd, ?_⟩
          · rw [World.cell?_setCell_far _ _ _ _ hne]; exact d0
          · rw [World.cell?_setCell_far _ _ _ _ hne]; exact d1
          · rw [World.cell?_setCell_far _ _ _ _ hne]; exact c2
          · exact ⟨HB2.out.setCell (show w.heap.size ≤ H by have := HGH.out; omega) _, let ⟨_, _, h⟩ := HT2.out; ⟨_, _, (kr_far (fun e => hne e.symm)).trans h⟩⟩
        case measure => (first | (rw [intOf_of' HW.out, intOf_of' rfl]; omega) | (simp [intOf]; omega) | (simp [intOf] <;> omega))
      · obtain rfl : N = j := by omega
        have h3 : ¬ (N : Int) < N := by omega
        clear c0 c1 hb hk
        go_wp2_with fail
        go_loopw [8, 46] (fun s8 s46 wr => ∃ i : Nat, i ≤ l.length ∧ s46 = .int .i64 i ∧ (wr.cell? ⟨G, 0, none⟩ = some (.int .i64 (k : Nat)) ∧ wr.cell? ⟨G, 1, none⟩ = some (.int .i64 (l.length : Nat)) ∧ wr.cell? ⟨G, 2, none⟩ = some (.slice (some ⟨H, 0, none⟩) N N)) ∧ KR wr H N ((List.range N).map (cellAt (l.take i))) ∧ Below w.heap.size w wr ∧ ∃ cur fr, wr.heap[G]? = some (Obj.cells cur 319 fr)) (fun _ i _ => l.length - (intOf i).toNat)
        case atStart => exact ⟨0, Nat.zero_le _, rfl, ⟨HC2.out.1, HC2.out.2, c2⟩, by rw [List.take_zero, ← dcell_all]; exact HK2.out, HB2.out, HT2.out⟩
        case round =>
          clear c2 hGl hHl
          obtain ⟨q, hi, rfl, ⟨c0, c1, c2⟩, hk, hb, ht⟩ := hrel
          have HT3 := Lib.hid ht
          clear ht
          have HB3 := Lib.hid hb
          have HK3 := Lib.hid hk
          have HC3 := Lib.hid (And.intro c0 (And.intro c1 c2))
          have hGl := World.block_lt_of_cell? wr _ c2
          have hHl := hk.lt
          by_cases hlt : q < l.length
          · have h3 : (q : Int) < l.length := by omega
            have h5 : (0 : Int) ≤ (q : Int) := by omega
            have HW := Lib.hid (show wrap64 ((q : Int) + 1) = ((q + 1 : Nat) : Int) by have := HS.out.2.2.2; unfold wrap64; omega)
            have haN : l[q].1 < N := by rw [← hNk]; exact HS.out.1.lt _ (List.getElem_mem hlt)
            have HA := Lib.hid haN
            have HSet := Lib.hid (cellAt_set HS.out.1 N q hlt haN)
            obtain ⟨b2, o2, rfl, hc⟩ := HX.out (by rw [List.length_map]; omega)
            obtain ⟨k0, k1, k2⟩ := hc q (by rw [List.length_map]; exact hlt)
            simp only [List.getElem_map, takenC, pv, Option.map_some] at k0 k1 k2
            replace k0 := Below.keeps hb _ _ k0
            replace k1 := Below.keeps hb _ _ k1
            replace k2 := Below.keeps hb _ _ k2
            have hlb := World.block_lt_of_cell? wr _ k0
            have hGl2 : ¬ wr.heap.size = G := by omega
            have gg2 := c2
            clear c2
            clear c0 c1 hb hk hc haN
            generalize l[q] = ax at *
            obtain ⟨aq, xq⟩ := ax
            simp only at k0 k1 k2
            have ha0 : ((aq : Nat) : Int) < (N : Int) := by have := HA.out; omega
            have ha1 : (0 : Int) ≤ ((aq : Nat) : Int) := by have := HA.out; omega
            go_wp2_with fail
            refine wp_region_vals 8 [fun z9 _ => z9 = .pointer (some ⟨G, 0, none⟩),
              fun z9 _ => z9 = .pointer (some ⟨G, 0, none⟩),
              fun z9 _ => z9 = .pointer (some ⟨G, 2, none⟩),
              fun z9 _ => z9 = .slice (some ⟨H, 0, none⟩) N N,
              fun z9 _ => z9 = .pointer (some ⟨wr.heap.size, 0, none⟩),
              fun z9 _ => z9 = .int .i64 (aq : Nat),
              fun z9 _ => z9 = .agg #[.int .i64 (aq : Nat), .pointer (some ⟨xq, 0, none⟩), .bool true],
              fun z9 _ => z9 = .pointer (some ⟨H, aq * 3, none⟩)]
              (by kernel_rfl) (by kernel_rfl) (by kernel_rfl) (by kernel_rfl) ?_ ?_ ?_
            · intro V hV v w1 w2 h hb
              simp only [List.mem_cons, List.not_mem_nil, or_false] at hV
              rcases hV with rfl | rfl | rfl | rfl | rfl | rfl | rfl | rfl
              all_goals first | exact h | (exact h)
            · intro iq oq hiq hoq
              match iq, hiq with
              | 0, _ =>
              obtain rfl := Option.some.inj hoq
              intro a1 w1 K hk hK
              have e5 : a1.tmps.getD 5 undef = .pointer (some ⟨G, 0, none⟩) := hk.same 5 (by simp)
              simp [Region.wanted, Oper.wp, Act.eval, go_sem, e5, ha0, ha1, gg2, hGl, hGl2]
              exact hK _ _ (Below.refl _ _) rfl
              | 1, _ =>
              obtain rfl := Option.some.inj hoq
              intro a1 w1 K hk hK
              have d50 : a1.tmps.getD 50 undef = .pointer (some ⟨G, 0, none⟩) := hk.deps ⟨0, .data⟩ (by simp) rfl _ _ rfl rfl
              simp [Region.wanted, Oper.wp, Act.eval, go_sem, d50, ha0, ha1, gg2, hGl, hGl2]
              exact hK _ _ (Below.refl _ _) rfl
              | 2, _ =>
              obtain rfl := Option.some.inj hoq
              intro a1 w1 K hk hK
              have d51 : a1.tmps.getD 51 undef = .pointer (some ⟨G, 0, none⟩) := hk.deps ⟨1, .data⟩ (by simp) rfl _ _ rfl rfl
              simp [Region.wanted, Oper.wp, Act.eval, go_sem, d51, ha0, ha1, gg2, hGl, hGl2]
              exact hK _ _ (Below.refl _ _) rfl
              | 3, _ =>
              obtain rfl := Option.some.inj hoq
              intro a1 w1 K hk hK
              have d52 : a1.tmps.getD 52 undef = .pointer (some ⟨G, 2, none⟩) := hk.deps ⟨2, .data⟩ (by simp) rfl _ _ rfl rfl
              have c0 : w1.cell? ⟨G, 2, none⟩ = some (.slice (some ⟨H, 0, none⟩) N N) := Below.keeps hk.ext _ _ (by simp [go_sem, ha0, ha1, gg2, hGl, hGl2])
              have c1 : w1.cell? ⟨wr.heap.size, 0, none⟩ = some (.int .i64 (aq : Nat)) := Below.keeps hk.ext _ _ (by simp [go_sem, ha0, ha1, gg2, hGl, hGl2])
              have c2 : w1.cell? ⟨wr.heap.size, 1, none⟩ = some (.pointer (some ⟨xq, 0, none⟩)) := Below.keeps hk.ext _ _ (by simp [go_sem, ha0, ha1, gg2, hGl, hGl2])
              have c3 : w1.cell? ⟨wr.heap.size, 2, none⟩ = some (.bool true) := Below.keeps hk.ext _ _ (by simp [go_sem, ha0, ha1, gg2, hGl, hGl2])
              simp [Region.wanted, Oper.wp, Act.eval, go_sem, d52, c0, c1, c2, c3, ha0, ha1, gg2, hGl, hGl2]
              exact hK _ _ (Below.refl _ _) rfl
              | 4, _ =>
              obtain rfl := Option.some.inj hoq
              intro a1 w1 K hk hK
              have e8 : a1.tmps.getD 8 undef = .pointer (some ⟨wr.heap.size, 0, none⟩) := hk.same 8 (by simp)
              simp [Region.wanted, Oper.wp, Act.eval, go_sem, e8, ha0, ha1, gg2, hGl, hGl2]
              exact hK _ _ (Below.refl _ _) rfl
              | 5, _ =>
              obtain rfl := Option.some.inj hoq
              intro a1 w1 K hk hK
              have d54 : a1.tmps.getD 54 undef = .pointer (some ⟨wr.heap.size, 0, none⟩) := hk.deps ⟨4, .data⟩ (by simp) rfl _ _ rfl rfl
              have c0 : w1.cell? ⟨G, 2, none⟩ = some (.slice (some ⟨H, 0, none⟩) N N) := Below.keeps hk.ext _ _ (by simp [go_sem, ha0, ha1, gg2, hGl, hGl2])
              have c1 : w1.cell? ⟨wr.heap.size, 0, none⟩ = some (.int .i64 (aq : Nat)) := Below.keeps hk.ext _ _ (by simp [go_sem, ha0, ha1, gg2, hGl, hGl2])
              have c2 : w1.cell? ⟨wr.heap.size, 1, none⟩ = some (.pointer (some ⟨xq, 0, none⟩)) := Below.keeps hk.ext _ _ (by simp [go_sem, ha0, ha1, gg2, hGl, hGl2])
              have c3 : w1.cell? ⟨wr.heap.size, 2, none⟩ = some (.bool true) := Below.keeps hk.ext _ _ (by simp [go_sem, ha0, ha1, gg2, hGl, hGl2])
              simp [Region.wanted, Oper.wp, Act.eval, go_sem, d54, c0, c1, c2, c3, ha0, ha1, gg2, hGl, hGl2]
              exact hK _ _ (Below.refl _ _) rfl
              | 6, _ =>
              obtain rfl := Option.some.inj hoq
              intro a1 w1 K hk hK
              have e8 : a1.tmps.getD 8 undef = .pointer (some ⟨wr.heap.size, 0, none⟩) := hk.same 8 (by simp)
              have c0 : w1.cell? ⟨G, 2, none⟩ = some (.slice (some ⟨H, 0, none⟩) N N) := Below.keeps hk.ext _ _ (by simp [go_sem, ha0, ha1, gg2, hGl, hGl2])
              have c1 : w1.cell? ⟨wr.heap.size, 0, none⟩ = some (.int .i64 (aq : Nat)) := Below.keeps hk.ext _ _ (by simp [go_sem, ha0, ha1, gg2, hGl, hGl2])
              have c2 : w1.cell? ⟨wr.heap.size, 1, none⟩ = some (.pointer (some ⟨xq, 0, none⟩)) := Below.keeps hk.ext _ _ (by simp [go_sem, ha0, ha1, gg2, hGl, hGl2])
              have c3 : w1.cell? ⟨wr.heap.size, 2, none⟩ = some (.bool true) := Below.keeps hk.ext _ _ (by simp [go_sem, ha0, ha1, gg2, hGl, hGl2])
              simp [Region.wanted, Oper.wp, Act.eval, go_sem, e8, c0, c1, c2, c3, ha0, ha1, gg2, hGl, hGl2]
              exact hK _ _ (Below.refl _ _) rfl
              | 7, _ =>
              obtain rfl := Option.some.inj hoq
              intro a1 w1 K hk hK
              have d53 : a1.tmps.getD 53 undef = .slice (some ⟨H, 0, none⟩) N N := hk.deps ⟨3, .data⟩ (by simp) rfl _ _ rfl rfl
              have d55 : a1.tmps.getD 55 undef = .int .i64 (aq : Nat) := hk.deps ⟨5, .data⟩ (by simp) rfl _ _ rfl rfl
              simp [Region.wanted, Oper.wp, Act.eval, go_sem, d53, d55, ha0, ha1, gg2, hGl, hGl2]
              exact hK _ _ (Below.refl _ _) rfl
            · intro vs w3 hl hb3 hv
              match vs, hl with
              | [v0, v1, v2, v3, v4, v5, v6, v7], _ =>
              obtain rfl : v0 = .pointer (some ⟨G, 0, none⟩) := hv 0 (by omega)
              obtain rfl : v1 = .pointer (some ⟨G, 0, none⟩) := hv 1 (by omega)
              obtain rfl : v2 = .pointer (some ⟨G, 2, none⟩) := hv 2 (by omega)
              obtain rfl : v3 = .slice (some ⟨H, 0, none⟩) N N := hv 3 (by omega)
              obtain rfl : v4 = .pointer (some ⟨wr.heap.size, 0, none⟩) := hv 4 (by omega)
              obtain rfl : v5 = .int .i64 (aq : Nat) := hv 5 (by omega)
              obtain rfl : v6 = .agg #[.int .i64 (aq : Nat), .pointer (some ⟨xq, 0, none⟩), .bool true] := hv 6 (by omega)
              obtain rfl : v7 = .pointer (some ⟨H, aq * 3, none⟩) := hv 7 (by omega)
              clear hv
              have hk3 := (HK3.out.below (w' := w3) (below_trans (by repeat (first | exact Below.refl _ _ | (refine Below.drew ?_) | (refine below_drewN' ?_ _) | (refine below_alloc' ?_ _) | (refine Below.setCell ?_ (by first | exact Nat.le_refl _ | (simp; done) | (simp; omega)) _))) hb3))
              obtain ⟨u0, hu0⟩ := hk3.room (aq * 3) (by have := HA.out; omega)
              obtain ⟨u1, hu1⟩ := hk3.room (aq * 3 + 1) (by have := HA.out; omega)
              obtain ⟨u2, hu2⟩ := hk3.room (aq * 3 + 2) (by have := HA.out; omega)
              have hf0 := hk3.thaw (aq * 3)
              have hf1 := hk3.thaw (aq * 3 + 1)
              have hf2 := hk3.thaw (aq * 3 + 2)
              have HKK := Lib.hid hk3
              clear hk3
              simp only [putAll, List.take_succ_cons, List.take_zero, List.drop_succ_cons, List.drop_zero, Act.put, List.setIfInBounds_toArray, List.set_cons_succ, List.set_cons_zero]
              go_wp2_with fail
              go_roundw
              case rel =>
                have hne : H ≠ G := by have := HGH.out; omega
                obtain ⟨d0, d1, d2⟩ := HC3.out
                have hb4 : Below wr.heap.size wr w3 := below_trans (by repeat (first | exact Below.refl _ _ | (refine Below.drew ?_) | (refine below_drewN' ?_ _) | (refine below_alloc' ?_ _) | (refine Below.setCell ?_ (by first | exact Nat.le_refl _ | (simp; done) | (simp; omega)) _))) hb3
                replace d0 := Below.keeps hb4 _ _ d0
                replace d1 := Below.keeps hb4 _ _ d1
                replace d2 := Below.keeps hb4 _ _ d2
                have hd := HKK.out.set3 aq ⟨aq, some xq, true⟩ (by rw [List.length_map, List.length_range]; exact HA.out)
                have e := HSet.out
                simp only [takenC] at e
                rw [e] at hd
                refine ⟨q + 1, by omega, (by first | rw [HW.out] | rfl | simp), ⟨?_, ?_, ?_⟩, hd, ?_⟩
                · rw [World.cell?_setCell_far _ _ _ _ hne, World.cell?_setCell_far _ _ _ _ hne, World.cell?_setCell_far _ _ _ _ hne]; exact d0
                · rw [World.cell?_setCell_far _ _ _ _ hne, World.cell?_setCell_far _ _ _ _ hne, World.cell?_setCell_far _ _ _ _ hne]; exact d1
                · rw [World.cell?_setCell_far _ _ _ _ hne, World.cell?_setCell_far _ _ _ _ hne, World.cell?_setCell_far _ _ _ _ hne]; exact d2
                · have hw : w.heap.size ≤ H := by have := HGH.out; omega
                  exact ⟨(((below_trans HB3.out hb4).setCell hw _).setCell hw _).setCell hw _, let ⟨_, _, h⟩ := HT3.out; ⟨_, _, (kr_far (fun e => hne e.symm)).trans ((kr_far (fun e => hne e.symm)).trans ((kr_far (fun e => hne e.symm)).trans ((hb4.block _ (kr_lt h)).trans h)))⟩⟩
              case measure => (first | (rw [intOf_of' HW.out, intOf_of' rfl]; omega) | (simp [intOf]; omega) | (simp [intOf] <;> omega))
          · have HE := Lib.hid (show l.take q = l from List.take_of_length_le (by omega))
            have h3 : ¬ (q : Int) < l.length := by omega
            clear c0 c1 c2 hb hk
            go_wp2_with fail
            go_ret
            have hk := HK3.out
            rw [HE.out, ← HL.out] at hk
            obtain ⟨d0, d1, d2⟩ := HC3.out
            have hr := hk.rd (by have := HS.out.2.2.2.1; simp only [maxLen]; omega)
            rw [HL.out, List.length_map, List.length_range, ← HL.out] at hr
            exact ⟨G, rfl, ⟨d0, d1, ⟨_, d2, hr⟩, HS.out.1, HS.out.2.1, HS.out.2.2.1, HT3.out, ⟨_, d2, HK3.out.ty 0 _ _⟩⟩, HB3.out⟩
end Go.Proofs.YtdkomhmciihkiaaGreat
/-! SlD -/
namespace Go.Proofs.YtdkomhmciihkiaaGreat
open Go.RowKit
set_option linter.unusedVariables false
set_option linter.unusedSimpArgs false

theorem intOf_nat (n : Nat) : intOf (.int .i64 (n : Int)) = n := rfl
theorem put1_any (x y : Int) (q : Option Addr) (h : Bool) (w : World) : Calls Tryz.prog 223 #[.agg #[.int .i64 x, .pointer q, .bool h], .int .i64 y] w fun e w' => e = .returned (.int .i64 (wrap64 (x - y))) ∧ Below w.heap.size w w' := by
  go_enter Tryz.func223, Tryz.ntmps223
  go_wp2_with fail
  go_ret
  exact ⟨rfl, (by repeat (first | exact Below.refl _ _ | (refine Below.drew ?_) | (refine below_drewN' ?_ _) | (refine below_alloc' ?_ _) | (refine Below.setCell ?_ (by first | exact Nat.le_refl _ | (simp; done) | (simp; omega)) _)))⟩

set_option maxRecDepth 100000 in
set_option maxHeartbeats 2000000 in
theorem bsf_any (l : List (Nat × Nat)) (a : Nat) (v : Value) (w : World) (hr : RdK w v (l.map takenC)) (hasc : Od.Asc ka l) (hlt : ∀ x ∈ l, x.1 < 65536) (ha : a < 65536) (hlen : l.length ≤ 65536) :
    Calls Tryz.prog 222 #[v, .int .i64 (a : Nat), .func (.func 223) #[] #[]] w fun e w' => e = .returned (.tuple #[.int .i64 (Od.place ka a l).1, .bool (Od.place ka a l).2]) ∧ Below w.heap.size w w' := by
  obtain ⟨A, c, rfl, hl, hx⟩ := hr
  rw [List.length_map] at *
  have HX := Lib.hid hx
  have HD := Lib.hid (And.intro hasc (And.intro hlt (And.intro ha (And.intro hl hlen))))
  clear hl hx hasc hlt ha hlen
  go_enter Tryz.func222, Tryz.ntmps222
  go_wp2_with fail
  go_loopw [9, 10] (fun s9 s10 wr => ∃ lo hi : Nat, s9 = .int .i64 lo ∧ s10 = .int .i64 hi ∧ lo ≤ hi ∧ hi ≤ l.length ∧ (∀ t (h : t < l.length), t < lo → l[t].1 < a) ∧ (∀ t (h : t < l.length), hi ≤ t → a ≤ l[t].1) ∧ Below w.heap.size w wr) (fun i j _ => (intOf j).toNat - (intOf i).toNat)
  case atStart => exact ⟨0, l.length, rfl, rfl, Nat.zero_le _, Nat.le_refl _, fun t h h' => absurd h' (Nat.not_lt_zero _), fun t h h' => by omega, Below.refl _ _⟩
  case round =>
    obtain ⟨lo, hi, rfl, rfl, hle, hhi, hlo, hup, hb⟩ := hrel
    have HB := Lib.hid hb
    have HI := Lib.hid (And.intro hle (And.intro hhi (And.intro hlo hup)))
    by_cases hlt : lo < hi
    · have h3 : (lo : Int) < (hi : Int) := by omega
      obtain ⟨m, hm⟩ : ∃ m, (lo + hi) / 2 = m := ⟨_, rfl⟩
      have hmid : m < l.length := by omega
      have hmw : wrap64 (IntKind.u64.wrap (wrap64 ((lo : Int) + (hi : Int))) / 2) = ((m : Nat) : Int) := by
        have h1 := HD.out.2.2.2.2
        rw [show wrap64 ((lo : Int) + (hi : Int)) = ((lo + hi : Nat) : Int) by unfold wrap64; omega, show IntKind.u64.wrap ((lo + hi : Nat) : Int) = ((lo + hi : Nat) : Int) by rw [IntKind.wrap_u64]; omega]
        unfold wrap64; omega
      have hm1 : wrap64 ((m : Int) + 1) = ((m + 1 : Nat) : Int) := by have h1 := HD.out.2.2.2.2; unfold wrap64; omega
      obtain ⟨b2, o2, rfl, hc⟩ := HX.out (by rw [List.length_map]; omega)
      obtain ⟨k0, k1, k2⟩ := hc m (by rw [List.length_map]; exact hmid)
      simp only [List.getElem_map, takenC, pv, Option.map_some] at k0 k1 k2
      replace k0 := Below.keeps hb _ _ k0
      replace k1 := Below.keeps hb _ _ k1
      replace k2 := Below.keeps hb _ _ k2
      have hlb := World.block_lt_of_cell? wr _ k0
      have hml : (m : Int) < (l.length : Int) := by omega
      have hd : wrap64 (((l[m].1 : Nat) : Int) - (a : Int)) = ((l[m].1 : Nat) : Int) - (a : Int) := by
        have h1 := HD.out.2.1 _ (List.getElem_mem hmid)
        have h2 := HD.out.2.2.1
        unfold wrap64; omega
      have HP := Lib.hid (fun w' => put1_any (l[m].1 : Nat) a (some ⟨l[m].2, 0, none⟩) true w')
      rw [hd] at HP
      have HA := Lib.hid (show (∀ t (h : t < l.length), t < m → l[t].1 < l[m].1) ∧ (∀ t (h : t < l.length), m < t → l[m].1 < l[t].1) from ⟨fun t h h' => List.pairwise_iff_getElem.1 HD.out.1 t m h hmid h', fun t h h' => List.pairwise_iff_getElem.1 HD.out.1 m t hmid h h'⟩)
      have HM := Lib.hid hm
      clear hc hb hm hle hhi hlo hup hd
      by_cases hz : ((l[m].1 : Nat) : Int) - (a : Int) < 0
      · have HL := Lib.hid (show ∀ t (h : t < l.length), t < m + 1 → l[t].1 < a from fun t h h' => by
          by_cases e : t = m
          · subst e; omega
          · have := HA.out.1 t h (by omega); omega)
        generalize hzz : ((l[m].1 : Nat) : Int) - (a : Int) = z at *
        clear hzz
        go_wp2_with fail
        refine (HP.out _).mono ?_
        rintro e w2 ⟨rfl, hb2⟩
        have HB2 := Lib.hid (below_trans HB.out hb2)
        clear hb2
        go_wp2_with fail
        go_roundw
        case rel => exact ⟨m + 1, hi, by first | rw [hm1] | rfl | simp, rfl, by have := HM.out; omega, HI.out.2.1, HL.out, HI.out.2.2.2, HB2.out⟩
        case measure =>
          have := HM.out
          have e1 : intOf (.int .i64 (wrap64 ((m : Int) + 1))) = ((m + 1 : Nat) : Int) := intOf_of' hm1
          rw [e1, intOf_nat hi, intOf_nat lo, Int.toNat_natCast, Int.toNat_natCast, Int.toNat_natCast]
          clear e1 hm1 hmw
          omega
      · have HL := Lib.hid (show ∀ t (h : t < l.length), m ≤ t → a ≤ l[t].1 from fun t h h' => by
          by_cases e : t = m
          · subst e; omega
          · have := HA.out.2 t h (by omega); omega)
        generalize hzz : ((l[m].1 : Nat) : Int) - (a : Int) = z at *
        clear hzz
        go_wp2_with fail
        refine (HP.out _).mono ?_
        rintro e w2 ⟨rfl, hb2⟩
        have HB2 := Lib.hid (below_trans HB.out hb2)
        clear hb2
        go_wp2_with fail
        go_roundw
        case rel => exact ⟨lo, m, rfl, rfl, by have := HM.out; omega, by have := HM.out; have := HI.out.2.1; omega, HI.out.2.2.1, HL.out, HB2.out⟩
        case measure =>
          have := HM.out
          rw [intOf_nat hi, intOf_nat lo, intOf_nat m, Int.toNat_natCast, Int.toNat_natCast, Int.toNat_natCast]
          clear hm1 hmw
          omega
    · obtain rfl : lo = hi := by omega
      have h3 : ¬ (lo : Int) < (lo : Int) := by omega
      by_cases hn : lo < l.length
      · have h4 : (lo : Int) < (l.length : Int) := by omega
        obtain ⟨b2, o2, rfl, hc⟩ := HX.out (by rw [List.length_map]; omega)
        obtain ⟨k0, k1, k2⟩ := hc lo (by rw [List.length_map]; exact hn)
        simp only [List.getElem_map, takenC, pv, Option.map_some] at k0 k1 k2
        replace k0 := Below.keeps hb _ _ k0
        replace k1 := Below.keeps hb _ _ k1
        replace k2 := Below.keeps hb _ _ k2
        have hlb := World.block_lt_of_cell? wr _ k0
        have hd : wrap64 (((l[lo].1 : Nat) : Int) - (a : Int)) = ((l[lo].1 : Nat) : Int) - (a : Int) := by
          have h1 := HD.out.2.1 _ (List.getElem_mem hn)
          have h2 := HD.out.2.2.1
          unfold wrap64; omega
        have HP := Lib.hid (fun w' => put1_any (l[lo].1 : Nat) a (some ⟨l[lo].2, 0, none⟩) true w')
        rw [hd] at HP
        have HE := Lib.hid (show Od.place ka a l = (lo, decide (((l[lo].1 : Nat) : Int) - (a : Int) = 0)) by
          rw [Od.place_at (key := ka) lo hn (fun j hj h => hlo j hj h) (by have := hup lo hn (Nat.le_refl _); show ¬ l[lo].1 < a; omega)]
          congr 1
          apply bool_ext
          simp only [decide_eq_true_eq]
          show l[lo].1 = a ↔ _
          omega)
        have HZ := Lib.hid (show (((l[lo].1 : Nat) : Int) - (a : Int) == 0) = decide (((l[lo].1 : Nat) : Int) - (a : Int) = 0) by apply bool_ext; simp)
        generalize ((l[lo].1 : Nat) : Int) - (a : Int) = z at *
        clear hc hb hlo hup hle hhi hd
        go_wp2_with fail
        refine (HP.out _).mono ?_
        rintro e w2 ⟨rfl, hb2⟩
        have HB2 := Lib.hid (below_trans HB.out hb2)
        clear hb2
        go_wp2_with fail
        go_ret2
        exact ⟨by rw [HE.out, ← HZ.out] <;> rfl, HB2.out⟩
      · have h4 : ¬ (lo : Int) < (l.length : Int) := by omega
        have HE := Lib.hid (show Od.place ka a l = (l.length, false) from Od.place_end (key := ka) fun j hj => hlo j hj (by omega))
        obtain rfl : lo = l.length := by omega
        clear hb hlo hup hle hhi
        go_wp2_with fail
        go_ret2
        exact ⟨by rw [HE.out] <;> rfl, HB.out⟩
end Go.Proofs.YtdkomhmciihkiaaGreat
/-! SlE -/
namespace Go.Proofs.YtdkomhmciihkiaaGreat
open Go.RowKit
set_option linter.unusedVariables false
set_option linter.unusedSimpArgs false

/-- block g: a row with room for n cells, its values are cs -/
def KL (w : World) (g n : Nat) (cs : List Value) : Prop := w.heap[g]? = some (.cells cs.toArray 324 (0, 0)) ∧ cs.length = n * 3
theorem KL.lt {w : World} {g n : Nat} {cs : List Value} (h : KL w g n cs) : g < w.heap.size := kr_lt h.1
theorem KL.kr {w : World} {g n : Nat} {m : List Cl} {rest : List Value} (h : KL w g n (cellsK m ++ rest)) : KR w g n m := by
  obtain ⟨h1, h2⟩ := h
  rw [List.length_append, cellsK_length] at h2
  refine ⟨_, h1, by rw [List.size_toArray, List.length_append, cellsK_length]; exact h2, by omega, fun j hj => ?_⟩
  have hl := cellsK_length m
  have hat := KAt_of (w := w) (b := g) (o := 0) (l := m) rfl (fun i hi => by
    unfold World.cell?
    simp only [h1, Nat.zero_add]
    simp [List.getElem?_append_left hi, List.getElem?_eq_getElem hi]) j hj
  obtain ⟨a1, a2, a3⟩ := hat
  simp only [World.cell?, h1, Nat.zero_add] at a1 a2 a3
  exact ⟨by simpa using a1, by simpa using a2, by simpa using a3⟩
theorem KR.kl {w : World} {g n : Nat} {m : List Cl} (h : KR w g n m) : ∃ rest, KL w g n (cellsK m ++ rest) := by
  have hle := h.le
  obtain ⟨cur, h1, h2, h3, h4⟩ := h
  have e : cur.toList.take (m.length * 3) = cellsK m := by
    apply List.ext_getElem?
    intro i
    have hl := cellsK_length m
    by_cases hi : i < m.length * 3
    · rw [List.getElem?_take_of_lt hi]
      have hj : i / 3 < m.length := by omega
      obtain ⟨a1, a2, a3⟩ := h4 (i / 3) hj
      have e0 : ∀ t (ht : t < 3), (cellsK m)[i / 3 * 3 + t]? = (m[i / 3].cells)[t]? := by
        intro t ht
        have h1 : ((cellsK m).drop (i / 3 * 3))[t]? = (cellsK m)[i / 3 * 3 + t]? := List.getElem?_drop
        rw [← h1, cellsK_drop, List.drop_eq_getElem_cons hj, cellsK_cons]
        unfold Cl.cells
        match t, ht with
        | 0, _ => rfl
        | 1, _ => rfl
        | 2, _ => rfl
      have hm : i = i / 3 * 3 + i % 3 := by omega
      have h3 : i % 3 = 0 ∨ i % 3 = 1 ∨ i % 3 = 2 := by omega
      rw [hm, Array.getElem?_toList]
      rcases h3 with h3 | h3 | h3 <;> rw [h3, e0 _ (by omega)]
      · exact a1
      · exact a2
      · exact a3
    · rw [List.getElem?_eq_none (by rw [List.length_take]; omega), List.getElem?_eq_none (by omega)]
  refine ⟨cur.toList.drop (m.length * 3), ?_, ?_⟩
  · rw [← e, List.take_append_drop, Array.toArray_toList]; exact h1
  · rw [← e, List.take_append_drop, Array.length_toList]; exact h2
theorem run_copy3 {w : World} (ty : TypeId) (g n off dLen dCap : Nat) (ad : Addr) (sLen sCap : Nat) (A B C cs : List Value) (hk : KL w g n (A ++ B ++ C)) (hoff : off = A.length) (hcl : cs.length = B.length) (hn : cs.length = Nat.min sLen dLen * 3)
    (hsrc : ∀ j v, cs[j]? = some v → w.cell? (ad.add j) = some v) (h1 : ∀ v ∈ cs, v.oneCell' = true) :
    (Builtin.copy_ #[317, 317] ty #[.slice (some ⟨g, off, none⟩) dLen dCap, .slice (some ad) sLen sCap]).run Tryz.prog w = .ok (goInt (Nat.min sLen dLen)) (w.setRow g (A ++ cs ++ C).toArray) := by
  have hl := run_loadCells_list (P := Tryz.prog) w ad cs hsrc
  obtain ⟨hk1, hk2⟩ := hk
  subst hoff
  have hst := run_storeCells_at Tryz.prog g A.length 324 cs 0 _ w hk1 (by simp; omega) h1
  have e1 : ((A ++ B ++ C).toArray.toList.take (A.length + 0) ++ cs ++ (A ++ B ++ C).toArray.toList.drop (A.length + 0 + cs.length)).toArray = (A ++ cs ++ C).toArray := by
    congr 1
    rw [Nat.add_zero, List.append_assoc A B C, List.take_left, hcl, ← List.append_assoc A B C, List.drop_append_of_le_length (by simp), ← List.length_append, List.drop_length, List.nil_append]
  rw [e1] at hst
  obtain ⟨i, hi, hz0, hz1, hz2⟩ := info_parts cellInfo
  simp [Builtin.copy_, run_underlying Tryz.underlying317, Builtin.lenOf, Builtin.firstCells, sizeOf, typeInfo, hi, hz1, ← hn, hl, hst]
theorem wpList_copy3 {w : World} {ops : Array Oper} {rest : List Oper} {o : Oper} {a : Act} {Q : Exit → Act → World → Prop} (hgd : o.guard = none) (d s : Operand)
    (ho : o.op = .call { callee := .builtin .copy, args := #[d, s], argTypes := #[317, 317] })
    (g n off dLen dCap : Nat) (ad : Addr) (sLen sCap : Nat) (A B C cs : List Value) (hd : a.eval d = .slice (some ⟨g, off, none⟩) dLen dCap) (hs : a.eval s = .slice (some ad) sLen sCap)
    (hk : KL w g n (A ++ B ++ C)) (hoff : off = A.length) (hcl : cs.length = B.length) (hn : cs.length = Nat.min sLen dLen * 3)
    (hsrc : ∀ j v, cs[j]? = some v → w.cell? (ad.add j) = some v) (h1 : ∀ v ∈ cs, v.oneCell' = true)
    (h : ∀ w', KL w' g n (A ++ cs ++ C) → (∀ B w0, Below B w0 w → B ≤ g → Below B w0 w') → (∀ b, b ≠ g → w'.heap[b]? = w.heap[b]?) → wpList Tryz.prog ops Q rest (a.put o.dst (goInt (Nat.min sLen dLen))) w') : wpList Tryz.prog ops Q (o :: rest) a w := by
  refine wpList_plain hgd fun K hK => ?_
  have hrun := run_copy3 o.type g n off dLen dCap ad sLen sCap A B C cs hk hoff hcl hn hsrc h1
  unfold Oper.wp
  simp [execOp, ho, resolve, invoke, builtin, hd, hs, hrun, Result.andThen]
  refine hK _ _ (h _ ⟨by simpa using setRow_heap w g _ (A ++ cs ++ C).toArray _ _ hk.1, ?_⟩ (fun B w0 hb hB => below_setRow hb hB _) (fun b hb => setRow_other w g b _ hb))
  have := hk.2
  simp only [List.length_append] at this ⊢
  omega

/-- one cell in a block of its own -/
def SrcB (w : World) (vb : Nat) (c : Cl) : Prop := KAt w vb 0 c ∧ ∃ arr t, w.heap[vb]? = some (.cells arr t (0, 0))
theorem SrcB.src {w : World} {vb : Nat} {c : Cl} (h : SrcB w vb c) (cc : Nat) : SrcK w (.slice (some ⟨vb, 0, none⟩) 1 cc) c := ⟨vb, cc, rfl, h.1⟩
theorem SrcB.cells {w : World} {vb : Nat} {c : Cl} (h : SrcB w vb c) : ∀ j v, (cellsK [c])[j]? = some v → w.cell? ((⟨vb, 0, none⟩ : Addr).add j) = some v := by
  obtain ⟨k0, k1, k2⟩ := h.1
  intro j v hj
  match j with
  | 0 => simp [cellsK, Cl.cells] at hj; subst hj; simpa [Addr.add] using k0
  | 1 => simp [cellsK, Cl.cells] at hj; subst hj; simpa [Addr.add] using k1
  | 2 => simp [cellsK, Cl.cells] at hj; subst hj; simpa [Addr.add] using k2
  | j + 3 => simp [cellsK, Cl.cells] at hj
/-- what Insert hands back -/
def InsP (W : World) (l : List Cl) (e : Ending) (w' : World) : Prop := ∃ v, e = .returned v ∧ OwnK W w' v l ∧ Below W.heap.size W w'

set_option maxRecDepth 100000 in
set_option maxHeartbeats 2000000 in
theorem ins_end (W w : World) (v : Value) (l : List Cl) (c : Cl) (vb cc : Nat) (hown : OwnK W w v l) (hx : SrcB w vb c) (hb : Below W.heap.size W w) (hlen : l.length ≤ 65536) :
    Calls Tryz.prog 224 #[v, .int .i64 (l.length : Nat), .slice (some ⟨vb, 0, none⟩) 1 cc] w fun e w' => InsP W (l ++ [c]) e w' := by
  obtain ⟨v', w', hrun, r1, r2⟩ := run_append_K W w v (.slice (some ⟨vb, 0, none⟩) 1 cc) l c hown (hx.src cc) hb.size (by omega) 317
  have HR := Lib.hid (And.intro r1 (hown.grown hb r2))
  obtain ⟨A, cp, rfl, hcp, hm⟩ := hown.shape
  have HRun := Lib.hid hrun
  have h0 : (0 : Int) ≤ (l.length : Int) := by omega
  clear hown hx hb r1 r2 hrun hm
  go_enter Tryz.func224, Tryz.ntmps224
  go_wp2_with (at_builtin; refine Lib.wpList_append_run _ rfl (.tmp 23) (.tmp 24) _ _ rfl _ _ rfl rfl _ _ HRun.out ?_)
  all_goals go_ret
  all_goals exact ⟨_, rfl, HR.out⟩

theorem addr_off (g o j : Nat) : (⟨g, o, none⟩ : Addr).add j = ⟨g, o + j, none⟩ := by
  unfold Addr.add; split
  · rename_i h; subst h; rfl
  · rfl
set_option maxRecDepth 100000 in
set_option maxHeartbeats 4000000 in
theorem ins_room (W w : World) (g n : Nat) (l : List Cl) (i : Nat) (c : Cl) (vb cc : Nat) (hk : KR w g n l) (hg : W.heap.size ≤ g) (hn : n ≤ maxLen) (hx : SrcB w vb c) (hvb : vb ≠ g) (hi : i < l.length) (hroom : l.length + 1 ≤ n) (hb : Below W.heap.size W w) (hlen : l.length ≤ 65536) :
    Calls Tryz.prog 224 #[.slice (some ⟨g, 0, none⟩) l.length n, .int .i64 (i : Nat), .slice (some ⟨vb, 0, none⟩) 1 cc] w fun e w' => InsP W (l.take i ++ c :: l.drop i) e w' := by
  obtain ⟨rest, hkl⟩ := hk.kl
  have hrl : 3 ≤ rest.length := by have := hkl.2; rw [List.length_append, cellsK_length] at this; omega
  have e0 : cellsK l ++ rest = cellsK (l.take (i + 1)) ++ (cellsK (l.drop (i + 1)) ++ rest.take 3) ++ rest.drop 3 := by
    rw [← List.append_assoc, ← cellsK_append, List.take_append_drop, List.append_assoc, List.take_append_drop]
  have hkl1 : KL w g n (cellsK (l.take (i + 1)) ++ (cellsK (l.drop (i + 1)) ++ rest.take 3) ++ rest.drop 3) := by rw [← e0]; exact hkl
  have hsz : (Tryz.prog.info? 324).map (fun i => (i.zero, i.size, i.bytes)) = some (some (.agg #[.int .i64 0, .pointer none, .bool false]), 3, 24) := cellInfo
  obtain ⟨arr, ty, hvh⟩ := hx.2
  have hov : ∀ lb cb, (callFunc 248 #[.slice (some ⟨vb, 0, none⟩) 1 cc, .slice (some ⟨g, (i + 1) * 3, none⟩) lb cb]).run Tryz.prog w = .ok (.value (.bool false)) w := fun lb cb => by
    rw [run_callFunc_extern Tryz.func248 (by kernel_rfl) (by kernel_rfl) (by kernel_rfl) (e := Extern.SlicesOverlaps.overlaps #[317, 317] #[4]) (by kernel_rfl),
      Lib.run_overlaps_apart w 317 4 324 Tryz.underlying317 3 (fun w => by kernel_rfl) ⟨vb, 0, none⟩ ⟨g, (i + 1) * 3, none⟩ 1 cc lb cb hvb ty 324 arr.size (cellsK l ++ rest).length (by simp [World.shape?, hvh]) (by simp [World.shape?, hkl.1]) (by rw [hkl.2]; omega) (by simp [World.frozen?, hvh]) (by simp [World.frozen?, hvh])]
    rfl
  have HK := Lib.hid hkl1
  have HX := Lib.hid hx
  have HD := Lib.hid (And.intro hi (And.intro hroom (And.intro hlen (And.intro hg hn))))
  have HB := Lib.hid hb
  have h1 : (i : Int) ≤ (l.length : Int) := by omega
  have h2 : (0 : Int) ≤ (i : Int) := by omega
  have h3 : ((i : Int) == (l.length : Int)) = false := by simp; omega
  have h4 : wrap64 ((l.length : Int) + 1) = ((l.length + 1 : Nat) : Int) := by unfold wrap64; omega
  have h5 : wrap64 ((i : Int) + 1) = ((i + 1 : Nat) : Int) := by unfold wrap64; omega
  have h5w : IntKind.i64.wrap ((i : Int) + 1) = ((i + 1 : Nat) : Int) := IntWalk.i64_in _ (by omega)
  have h14 : (i : Int) ≤ (l.length : Int) + 1 := by omega
  have h6 : ¬ ((l.length + 1 : Nat) : Int) > (n : Int) := by omega
  have h7 : ¬ n = i := by omega
  have h8 : ¬ n = i + 1 := by omega
  have h9 : l.length ≤ n := by omega
  have h10 : l.length + 1 - (i + 1) = l.length - i := by omega
  have h11 : (i : Int) + 1 ≤ (l.length : Int) + 1 := by omega
  have h12 : (0 : Int) ≤ (i : Int) + 1 := by omega
  have h13 : i ≤ l.length + 1 := by omega
  have HR := Lib.hid hrl
  have HV := Lib.hid hvb
  have E0 := Lib.hid e0
  clear hk hg hn hx hvb hi hroom hb hlen hkl hrl hkl1 hvh e0
  go_enter Tryz.func224, Tryz.ntmps224
  go_wp2_with (simp only [hov])
  refine wp_region_vals 8 [fun v _ => v = .slice (some ⟨g, 0, none⟩) (l.length + 1) n,
    fun v _ => v = .int .i64 (i : Nat),
    fun v _ => v = .int .i64 1,
    fun v _ => v = .int .i64 ((i + 1 : Nat) : Int),
    fun v _ => v = .slice (some ⟨g, (i + 1) * 3, none⟩) (l.length - i) (n - (i + 1)),
    fun v _ => v = .slice (some ⟨g, 0, none⟩) (l.length + 1) n,
    fun v _ => v = .int .i64 (i : Nat),
    fun v _ => v = .slice (some ⟨g, i * 3, none⟩) (l.length + 1 - i) (n - i)]
    (by kernel_rfl) (by kernel_rfl) (by kernel_rfl) (by kernel_rfl) ?_ ?_ ?_
  · intro V hV v w1 w2 h hb
    simp only [List.mem_cons, List.not_mem_nil, or_false] at hV
    rcases hV with rfl | rfl | rfl | rfl | rfl | rfl | rfl | rfl
    all_goals first | exact h | (exact h)
  · intro iq oq hiq hoq
    match iq, hiq with
    | 0, _ =>
    obtain rfl := Option.some.inj hoq
    intro a1 w1 K hk hK
    have e0 : a1.tmps.getD 0 undef = .slice (some ⟨g, 0, none⟩) (l.length + 1) n := hk.same 0 (by simp)
    simp [Region.wanted, Oper.wp, Act.eval, go_sem, e0, h1, h2, h4, h5, h5w, h7, h8, h9, h10, h11, h12, h13, h14]
    exact hK _ _ (Below.refl _ _) rfl
    | 1, _ =>
    obtain rfl := Option.some.inj hoq
    intro a1 w1 K hk hK
    have e1 : a1.tmps.getD 1 undef = .int .i64 (i : Nat) := hk.same 1 (by simp)
    simp [Region.wanted, Oper.wp, Act.eval, go_sem, e1, h1, h2, h4, h5, h5w, h7, h8, h9, h10, h11, h12, h13, h14]
    exact hK _ _ (Below.refl _ _) rfl
    | 2, _ =>
    obtain rfl := Option.some.inj hoq
    intro a1 w1 K hk hK
    have e7 : a1.tmps.getD 7 undef = .int .i64 1 := hk.same 7 (by simp)
    simp [Region.wanted, Oper.wp, Act.eval, go_sem, e7, h1, h2, h4, h5, h5w, h7, h8, h9, h10, h11, h12, h13, h14]
    exact hK _ _ (Below.refl _ _) rfl
    | 3, _ =>
    obtain rfl := Option.some.inj hoq
    intro a1 w1 K hk hK
    have d70 : a1.tmps.getD 70 undef = .int .i64 (i : Nat) := hk.deps ⟨1, .data⟩ (by simp) rfl _ _ rfl rfl
    have d71 : a1.tmps.getD 71 undef = .int .i64 1 := hk.deps ⟨2, .data⟩ (by simp) rfl _ _ rfl rfl
    simp [Region.wanted, Oper.wp, Act.eval, go_sem, d70, d71, h1, h2, h4, h5, h5w, h7, h8, h9, h10, h11, h12, h13, h14]
    exact hK _ _ (Below.refl _ _) rfl
    | 4, _ =>
    obtain rfl := Option.some.inj hoq
    intro a1 w1 K hk hK
    have d69 : a1.tmps.getD 69 undef = .slice (some ⟨g, 0, none⟩) (l.length + 1) n := hk.deps ⟨0, .data⟩ (by simp) rfl _ _ rfl rfl
    have d72 : a1.tmps.getD 72 undef = .int .i64 ((i + 1 : Nat) : Int) := hk.deps ⟨3, .data⟩ (by simp) rfl _ _ rfl rfl
    simp [Region.wanted, Oper.wp, Act.eval, go_sem, d69, d72, h1, h2, h4, h5, h5w, h7, h8, h9, h10, h11, h12, h13, h14]
    exact hK _ _ (Below.refl _ _) rfl
    | 5, _ =>
    obtain rfl := Option.some.inj hoq
    intro a1 w1 K hk hK
    have e0 : a1.tmps.getD 0 undef = .slice (some ⟨g, 0, none⟩) (l.length + 1) n := hk.same 0 (by simp)
    simp [Region.wanted, Oper.wp, Act.eval, go_sem, e0, h1, h2, h4, h5, h5w, h7, h8, h9, h10, h11, h12, h13, h14]
    exact hK _ _ (Below.refl _ _) rfl
    | 6, _ =>
    obtain rfl := Option.some.inj hoq
    intro a1 w1 K hk hK
    have e1 : a1.tmps.getD 1 undef = .int .i64 (i : Nat) := hk.same 1 (by simp)
    simp [Region.wanted, Oper.wp, Act.eval, go_sem, e1, h1, h2, h4, h5, h5w, h7, h8, h9, h10, h11, h12, h13, h14]
    exact hK _ _ (Below.refl _ _) rfl
    | 7, _ =>
    obtain rfl := Option.some.inj hoq
    intro a1 w1 K hk hK
    have d74 : a1.tmps.getD 74 undef = .slice (some ⟨g, 0, none⟩) (l.length + 1) n := hk.deps ⟨5, .data⟩ (by simp) rfl _ _ rfl rfl
    have d75 : a1.tmps.getD 75 undef = .int .i64 (i : Nat) := hk.deps ⟨6, .data⟩ (by simp) rfl _ _ rfl rfl
    simp [Region.wanted, Oper.wp, Act.eval, go_sem, d74, d75, h1, h2, h4, h5, h5w, h7, h8, h9, h10, h11, h12, h13, h14]
    exact hK _ _ (Below.refl _ _) rfl
  · intro vs w3 hl hb3 hv
    match vs, hl with
    | [v0, v1, v2, v3, v4, v5, v6, v7], _ =>
    obtain rfl : v0 = .slice (some ⟨g, 0, none⟩) (l.length + 1) n := hv 0 (by omega)
    obtain rfl : v1 = .int .i64 (i : Nat) := hv 1 (by omega)
    obtain rfl : v2 = .int .i64 1 := hv 2 (by omega)
    obtain rfl : v3 = .int .i64 ((i + 1 : Nat) : Int) := hv 3 (by omega)
    obtain rfl : v4 = .slice (some ⟨g, (i + 1) * 3, none⟩) (l.length - i) (n - (i + 1)) := hv 4 (by omega)
    obtain rfl : v5 = .slice (some ⟨g, 0, none⟩) (l.length + 1) n := hv 5 (by omega)
    obtain rfl : v6 = .int .i64 (i : Nat) := hv 6 (by omega)
    obtain rfl : v7 = .slice (some ⟨g, i * 3, none⟩) (l.length + 1 - i) (n - i) := hv 7 (by omega)
    clear hv
    simp only [putAll, List.take_succ_cons, List.take_zero, List.drop_succ_cons, List.drop_zero, Act.put, List.setIfInBounds_toArray, List.set_cons_succ, List.set_cons_zero]
    have hb4 : Below w.heap.size w w3 := below_trans (by repeat (first | exact Below.refl _ _ | (refine Below.drew ?_) | (refine below_drewN' ?_ _) | (refine below_alloc' ?_ _) | (refine Below.setCell ?_ (by first | exact Nat.le_refl _ | (simp; done) | (simp; omega)) _))) hb3
    have hk3 : KL w3 g n (cellsK (l.take (i + 1)) ++ (cellsK (l.drop (i + 1)) ++ rest.take 3) ++ rest.drop 3) := ⟨(hb4.block g HK.out.lt).trans HK.out.1, HK.out.2⟩
    have hmin : Nat.min (l.length + 1 - i) (l.length - i) = l.length - i := Nat.min_eq_right (by omega)
    have hcl : (cellsK (l.drop i)).length = (l.length - i) * 3 := by rw [cellsK_length, List.length_drop]
    refine wpList_copy3 rfl (.tmp 73) (.tmp 76) rfl g n ((i + 1) * 3) (l.length - i) (n - (i + 1)) ⟨g, i * 3, none⟩ (l.length + 1 - i) (n - i) _ _ _ (cellsK (l.drop i)) rfl rfl hk3 ?_ ?_ ?_ ?_ (cellsK_one _) ?_
    · rw [cellsK_length, List.length_take]; have := HD.out.1; omega
    · rw [hcl, List.length_append, cellsK_length, List.length_drop, List.length_take]; have := HR.out; have := HD.out.1; omega
    · rw [hmin, hcl]
    · intro j x hj
      rw [addr_off]
      have hlt : j < (l.length - i) * 3 := by have := (List.getElem?_eq_some_iff.1 hj).1; omega
      rw [← cellsK_drop, List.getElem?_drop] at hj
      unfold World.cell?
      have e1 := hk3.1
      rw [← E0.out] at e1
      simp only [e1]
      simp only [Option.isSome_none, Bool.false_eq_true, if_false, List.getElem?_toArray]
      rw [List.getElem?_append_left (by rw [cellsK_length]; have := HD.out.1; omega)]
      exact hj
    intro w4 hk4 hb5 hoth
    have hx4 : SrcB w4 vb c := by
      obtain ⟨x1, arr, t, x2⟩ := HX.out
      have x3 : w4.heap[vb]? = w.heap[vb]? := (hoth vb HV.out).trans (hb4.block vb (kr_lt x2))
      refine ⟨?_, arr, t, x3.trans x2⟩
      unfold KAt World.cell? at x1 ⊢
      rw [x3]; exact x1
    have hB4 := hb5 _ _ (below_trans HB.out hb4) HD.out.2.2.2.1
    have e4 : cellsK (l.take (i + 1)) ++ cellsK (l.drop i) ++ rest.drop 3 = cellsK (l.take i) ++ cellsK [l[i]'(HD.out.1)] ++ (cellsK (l.drop i) ++ rest.drop 3) := by
      rw [← List.take_append_getElem HD.out.1, cellsK_append]; simp only [List.append_assoc]
    rw [e4] at hk4
    have HK4 := Lib.hid (And.intro hk4 (And.intro hx4 hB4))
    have HC4 := Lib.hid hx4.cells
    clear hk4 hx4 hB4 e4 hk3 hb4 hb5 hoth hb3 hcl hl
    go_wp2_with (refine wpList_copy3 rfl (.tmp 80) (.tmp 81) rfl g n (i * 3) (l.length + 1 - i) (n - i) ⟨vb, 0, none⟩ 1 cc _ _ _ (cellsK [c]) rfl rfl HK4.out.1 ?_ ?_ ?_ HC4.out (cellsK_one _) ?_)
    · rw [cellsK_length, List.length_take]; have := HD.out.1; omega
    · rfl
    · rw [show Nat.min 1 (l.length + 1 - i) = 1 from Nat.min_eq_left (by have := HD.out.1; omega)]; rfl
    intro w5 hk5 hb6 hoth6
    have hB5 := hb6 _ _ HK4.out.2.2 HD.out.2.2.2.1
    have e5 : cellsK (l.take i) ++ cellsK [c] ++ (cellsK (l.drop i) ++ rest.drop 3) = cellsK (l.take i ++ c :: l.drop i) ++ rest.drop 3 := by
      rw [← cellsK_append, ← List.append_assoc, ← cellsK_append, List.append_assoc, List.singleton_append]
    replace hk5 : KL w5 g n (cellsK (l.take i ++ c :: l.drop i) ++ rest.drop 3) := by rw [← e5]; simp only [List.append_assoc]; simpa only [List.append_assoc] using hk5
    have e6 : (l.take i ++ c :: l.drop i).length = l.length + 1 := by rw [List.length_append, List.length_cons, List.length_take, List.length_drop]; have := HD.out.1; omega
    have HR5 := Lib.hid (show InsP W (l.take i ++ c :: l.drop i) (.returned (.slice (some ⟨g, 0, none⟩) (l.length + 1) n)) w5 from ⟨_, rfl, by have := hk5.kr.own HD.out.2.2.2.1 HD.out.2.2.2.2; rw [e6] at this; exact this, hB5⟩)
    clear hk5 hb6 hoth6 hB5 e5 e6
    go_wp2_with fail
    go_ret
    exact HR5.out

set_option maxRecDepth 100000 in
set_option maxHeartbeats 4000000 in
theorem ins_grow (W w : World) (g n : Nat) (l : List Cl) (i : Nat) (c : Cl) (vb cc : Nat) (hk : KR w g n l) (hg : W.heap.size ≤ g) (hn : n ≤ maxLen) (hx : SrcB w vb c) (hi : i < l.length) (hroom : n < l.length + 1) (hb : Below W.heap.size W w) (hlen : l.length ≤ 65536) :
    Calls Tryz.prog 224 #[.slice (some ⟨g, 0, none⟩) l.length n, .int .i64 (i : Nat), .slice (some ⟨vb, 0, none⟩) 1 cc] w fun e w' => InsP W (l.take i ++ c :: l.drop i) e w' := by
  have h1 : (i : Int) ≤ (l.length : Int) := by omega
  have h2 : (0 : Int) ≤ (i : Int) := by omega
  have h3 : ((i : Int) == (l.length : Int)) = false := by simp; omega
  have h4 : wrap64 ((l.length : Int) + 1) = ((l.length + 1 : Nat) : Int) := by unfold wrap64; omega
  have HW4 := Lib.hid (show wrap64 ((l.length : Int) + 1 - (i : Int)) = ((l.length + 1 - i : Nat) : Int) by unfold wrap64; omega)
  have h5 : wrap64 ((i : Int) + 1) = ((i + 1 : Nat) : Int) := by unfold wrap64; omega
  have h5w : IntKind.i64.wrap ((i : Int) + 1) = ((i + 1 : Nat) : Int) := IntWalk.i64_in _ (by omega)
  have h14 : (i : Int) ≤ (l.length : Int) + 1 := by omega
  have h6 : ((l.length + 1 : Nat) : Int) > (n : Int) := by omega
  have h10 : l.length + 1 - (i + 1) = l.length - i := by omega
  have h11 : (i : Int) + 1 ≤ (l.length : Int) + 1 := by omega
  have h12 : (0 : Int) ≤ (i : Int) + 1 := by omega
  have h13 : i ≤ l.length + 1 := by omega
  have h15 : i ≤ l.length := by omega
  obtain ⟨i0, hi0, hz0, hzs, hzb⟩ := info_parts cellInfo
  have hnl : l.length ≤ n := hk.le
  have h9 : i ≤ n := by omega
  have h7 : ¬ n = i := by omega
  have hgw := hk.lt
  have hvw : vb < w.heap.size := let ⟨_, _, h⟩ := hx.2; kr_lt h
  have hik : i + (l.length + 1 - i) = l.length + 1 := by omega
  obtain ⟨rest, hkl⟩ := hk.kl
  have hold : (Builtin.firstCells i0.size i (.slice (some ⟨g, 0, none⟩) i n)).run Tryz.prog w.drew = .ok (cellsK (l.take i)).toArray w.drew := by
    rw [hzs]
    refine run_firstCells_some w.drew 3 i ⟨g, 0, none⟩ i n (cellsK (l.take i)) (by rw [cellsK_length, List.length_take, Nat.min_eq_left (by omega)]) fun j v hj => ?_
    rw [addr_off, Nat.zero_add]
    have hlt : j < i * 3 := by have := (List.getElem?_eq_some_iff.1 hj).1; rw [cellsK_length, List.length_take] at this; omega
    rw [← cellsK_take, List.getElem?_take_of_lt hlt] at hj
    show w.cell? _ = _
    unfold World.cell?
    simp only [hkl.1, Option.isSome_none, Bool.false_eq_true, if_false, List.getElem?_toArray]
    rw [List.getElem?_append_left (by rw [cellsK_length]; omega)]
    exact hj
  obtain ⟨G, hG⟩ : ∃ G, G = grownCap w (l.length + 1) n 324 := ⟨_, rfl⟩
  have hGn : l.length + 1 ≤ G := by rw [hG]; exact grownCap_ge w _ _ _
  have hGm : G ≤ maxLen := by rw [hG]; exact grownCap_le_maxLen w _ _ _ (by simp only [maxLen]; omega)
  obtain ⟨R2, hR2, hR2l⟩ : ∃ R2 : List Value, (Builtin.zeroCells (Value.agg #[.int .i64 0, .pointer none, .bool false]).cells (l.length + 1 - i)).toList = R2 ∧ R2.length = (l.length + 1 - i) * 3 := ⟨_, rfl, by simp [Builtin.zeroCells, Value.cells]⟩
  obtain ⟨R3, hR3, hR3l⟩ : ∃ R3 : List Value, (Builtin.zeroCells (Value.agg #[.int .i64 0, .pointer none, .bool false]).cells (G - (l.length + 1))).toList = R3 ∧ R3.length = (G - (l.length + 1)) * 3 := ⟨_, rfl, by simp [Builtin.zeroCells, Value.cells]⟩
  have hrz : ∀ ty, (Builtin.append_ #[317, 3] ty #[.slice (some ⟨g, 0, none⟩) i n, .int .i64 ((l.length + 1 - i : Nat) : Int)]).run Tryz.prog w =
      .ok (.slice (some ⟨w.heap.size, 0, none⟩) (l.length + 1) G) (w.drew.alloc (.cells (cellsK (l.take i) ++ R2 ++ R3).toArray 324)) := fun ty => by
    have h := Lib.run_append_grow_zeros w 317 3 ty 324 i0 _ .i64 .i64 Tryz.underlying317 Tryz.underlying3 hi0 hz0 (some ⟨g, 0, none⟩) i n (cellsK (l.take i)) hold (l.length + 1 - i) (by omega) (by omega) (by omega) (by omega) (by rw [hzb]; omega) (by rw [hzb, hik]; exact growslice_fits hroom (by omega))
    rw [hik, ← hG] at h
    rw [h]
    congr 3
    rw [← hR2, ← hR3]
    simp
  have HRZ := Lib.hid hrz
  have hH0 : KL (w.drew.alloc (.cells (cellsK (l.take i) ++ R2 ++ R3).toArray 324)) w.heap.size G (cellsK (l.take i) ++ R2 ++ R3)   := ⟨by show (w.heap.push _)[w.heap.size]? = _; simp, by
    rw [List.length_append, List.length_append, cellsK_length, List.length_take, hR2l, hR3l, Nat.min_eq_left (by omega)]; omega⟩
  have hR2s : R2 = R2.take 3 ++ R2.drop 3 := (List.take_append_drop ..).symm
  have HK := Lib.hid (show KL (w.drew.alloc (.cells (cellsK (l.take i) ++ R2 ++ R3).toArray 324)) w.heap.size G (cellsK (l.take i) ++ R2.take 3 ++ (R2.drop 3 ++ R3)) from by
    rw [show cellsK (l.take i) ++ R2.take 3 ++ (R2.drop 3 ++ R3) = cellsK (l.take i) ++ R2 ++ R3 by rw [List.append_assoc, ← List.append_assoc (R2.take 3), List.take_append_drop, List.append_assoc]]; exact hH0)
  have hbelow : ∀ o, Below w.heap.size w (w.drew.alloc o) := fun o => (below_alloc' ((Below.refl _ _).drew) o)
  have HBW := Lib.hid (hbelow (.cells (cellsK (l.take i) ++ R2 ++ R3).toArray 324))
  obtain ⟨W1, hW1⟩ : ∃ W1, W1 = w.drew.alloc (.cells (cellsK (l.take i) ++ R2 ++ R3).toArray 324) := ⟨_, rfl⟩
  rw [← hW1] at HRZ HK HBW
  clear hW1
  have hx1 : SrcB W1 vb c := by
    obtain ⟨x1, arr, t, x2⟩ := hx
    exact ⟨⟨Below.keeps HBW.out _ _ x1.1, Below.keeps HBW.out _ _ x1.2.1, Below.keeps HBW.out _ _ x1.2.2⟩, arr, t, (HBW.out.block vb hvw).trans x2⟩
  have HX := Lib.hid hx1.cells
  have HL := Lib.hid hkl
  have HB := Lib.hid hb
  have HD := Lib.hid (And.intro hi (And.intro hroom (And.intro hlen (And.intro hg (And.intro hn (And.intro hGn (And.intro hGm (And.intro hgw (And.intro hb.size hR2l)))))))))
  have h7b : ¬ G = i := by omega
  have h8 : ¬ G = i + 1 := by omega
  clear hk hg hn hx hi hroom hb hlen hkl hold hrz hH0 hbelow hx1 hGn hGm hR2 hR3 hR2s hG hi0 hz0 hzs hzb
  go_enter Tryz.func224, Tryz.ntmps224
  go_wp2_with (first
    | (at_builtin; refine Lib.wpList_append_run _ rfl (.tmp 34) (.tmp 39) _ _ rfl _ _ rfl (congrArg (Value.int .i64) HW4.out) _ _ (HRZ.out _) ?_)
    | (refine wpList_copy3 rfl (.tmp 43) (.tmp 44) rfl w.heap.size G (i * 3) (l.length + 1 - i) (G - i) ⟨vb, 0, none⟩ 1 cc _ _ _ (cellsK [c]) rfl rfl HK.out ?_ ?_ ?_ HX.out (cellsK_one _) ?_))
  · rw [cellsK_length, List.length_take]; have := HD.out.1; omega
  · rw [List.length_take]; have := HD.out.1; have := hR2l; show 3 = _; omega
  · rw [show Nat.min 1 (l.length + 1 - i) = 1 from Nat.min_eq_left (by have := HD.out.1; omega)]; rfl
  intro w2 hk2 hb2 hoth2
  have HB2 := Lib.hid (show Below w.heap.size w w2 from hb2 _ _ HBW.out (Nat.le_refl _))
  have HK2 := Lib.hid hk2
  clear hk2 hb2 hoth2
  go_wp2_with fail
  refine wp_region_vals 8 [fun v _ => v = .slice (some ⟨w.heap.size, 0, none⟩) (l.length + 1) G,
    fun v _ => v = .int .i64 (i : Nat),
    fun v _ => v = .int .i64 1,
    fun v _ => v = .int .i64 ((i + 1 : Nat) : Int),
    fun v _ => v = .slice (some ⟨w.heap.size, (i + 1) * 3, none⟩) (l.length - i) (G - (i + 1)),
    fun v _ => v = .slice (some ⟨g, 0, none⟩) l.length n,
    fun v _ => v = .int .i64 (i : Nat),
    fun v _ => v = .slice (some ⟨g, i * 3, none⟩) (l.length - i) (n - i)]
    (by kernel_rfl) (by kernel_rfl) (by kernel_rfl) (by kernel_rfl) ?_ ?_ ?_
  · intro V hV v w1 w2 h hb
    simp only [List.mem_cons, List.not_mem_nil, or_false] at hV
    rcases hV with rfl | rfl | rfl | rfl | rfl | rfl | rfl | rfl
    all_goals first | exact h | (exact h)
  · intro iq oq hiq hoq
    match iq, hiq with
    | 0, _ =>
    obtain rfl := Option.some.inj hoq
    intro a1 w1 K hk hK
    have e9 : a1.tmps.getD 9 undef = .slice (some ⟨w.heap.size, 0, none⟩) (l.length + 1) G := hk.same 9 (by simp)
    simp [Region.wanted, Oper.wp, Act.eval, go_sem, e9, h1, h2, h4, h5, h5w, h7, h7b, h8, h9, h10, h11, h12, h13, h14, h15]
    exact hK _ _ (Below.refl _ _) rfl
    | 1, _ =>
    obtain rfl := Option.some.inj hoq
    intro a1 w1 K hk hK
    have e1 : a1.tmps.getD 1 undef = .int .i64 (i : Nat) := hk.same 1 (by simp)
    simp [Region.wanted, Oper.wp, Act.eval, go_sem, e1, h1, h2, h4, h5, h5w, h7, h7b, h8, h9, h10, h11, h12, h13, h14, h15]
    exact hK _ _ (Below.refl _ _) rfl
    | 2, _ =>
    obtain rfl := Option.some.inj hoq
    intro a1 w1 K hk hK
    have e7 : a1.tmps.getD 7 undef = .int .i64 1 := hk.same 7 (by simp)
    simp [Region.wanted, Oper.wp, Act.eval, go_sem, e7, h1, h2, h4, h5, h5w, h7, h7b, h8, h9, h10, h11, h12, h13, h14, h15]
    exact hK _ _ (Below.refl _ _) rfl
    | 3, _ =>
    obtain rfl := Option.some.inj hoq
    intro a1 w1 K hk hK
    have d47 : a1.tmps.getD 47 undef = .int .i64 (i : Nat) := hk.deps ⟨1, .data⟩ (by simp) rfl _ _ rfl rfl
    have d48 : a1.tmps.getD 48 undef = .int .i64 1 := hk.deps ⟨2, .data⟩ (by simp) rfl _ _ rfl rfl
    simp [Region.wanted, Oper.wp, Act.eval, go_sem, d47, d48, h1, h2, h4, h5, h5w, h7, h7b, h8, h9, h10, h11, h12, h13, h14, h15]
    exact hK _ _ (Below.refl _ _) rfl
    | 4, _ =>
    obtain rfl := Option.some.inj hoq
    intro a1 w1 K hk hK
    have d46 : a1.tmps.getD 46 undef = .slice (some ⟨w.heap.size, 0, none⟩) (l.length + 1) G := hk.deps ⟨0, .data⟩ (by simp) rfl _ _ rfl rfl
    have d49 : a1.tmps.getD 49 undef = .int .i64 ((i + 1 : Nat) : Int) := hk.deps ⟨3, .data⟩ (by simp) rfl _ _ rfl rfl
    simp [Region.wanted, Oper.wp, Act.eval, go_sem, d46, d49, h1, h2, h4, h5, h5w, h7, h7b, h8, h9, h10, h11, h12, h13, h14, h15]
    exact hK _ _ (Below.refl _ _) rfl
    | 5, _ =>
    obtain rfl := Option.some.inj hoq
    intro a1 w1 K hk hK
    have e0 : a1.tmps.getD 0 undef = .slice (some ⟨g, 0, none⟩) l.length n := hk.same 0 (by simp)
    simp [Region.wanted, Oper.wp, Act.eval, go_sem, e0, h1, h2, h4, h5, h5w, h7, h7b, h8, h9, h10, h11, h12, h13, h14, h15]
    exact hK _ _ (Below.refl _ _) rfl
    | 6, _ =>
    obtain rfl := Option.some.inj hoq
    intro a1 w1 K hk hK
    have e1 : a1.tmps.getD 1 undef = .int .i64 (i : Nat) := hk.same 1 (by simp)
    simp [Region.wanted, Oper.wp, Act.eval, go_sem, e1, h1, h2, h4, h5, h5w, h7, h7b, h8, h9, h10, h11, h12, h13, h14, h15]
    exact hK _ _ (Below.refl _ _) rfl
    | 7, _ =>
    obtain rfl := Option.some.inj hoq
    intro a1 w1 K hk hK
    have d51 : a1.tmps.getD 51 undef = .slice (some ⟨g, 0, none⟩) l.length n := hk.deps ⟨5, .data⟩ (by simp) rfl _ _ rfl rfl
    have d52 : a1.tmps.getD 52 undef = .int .i64 (i : Nat) := hk.deps ⟨6, .data⟩ (by simp) rfl _ _ rfl rfl
    simp [Region.wanted, Oper.wp, Act.eval, go_sem, d51, d52, h1, h2, h4, h5, h5w, h7, h7b, h8, h9, h10, h11, h12, h13, h14, h15]
    exact hK _ _ (Below.refl _ _) rfl
  · intro vs w3 hl hb3 hv
    match vs, hl with
    | [v0, v1, v2, v3, v4, v5, v6, v7], _ =>
    obtain rfl : v0 = .slice (some ⟨w.heap.size, 0, none⟩) (l.length + 1) G := hv 0 (by omega)
    obtain rfl : v1 = .int .i64 (i : Nat) := hv 1 (by omega)
    obtain rfl : v2 = .int .i64 1 := hv 2 (by omega)
    obtain rfl : v3 = .int .i64 ((i + 1 : Nat) : Int) := hv 3 (by omega)
    obtain rfl : v4 = .slice (some ⟨w.heap.size, (i + 1) * 3, none⟩) (l.length - i) (G - (i + 1)) := hv 4 (by omega)
    obtain rfl : v5 = .slice (some ⟨g, 0, none⟩) l.length n := hv 5 (by omega)
    obtain rfl : v6 = .int .i64 (i : Nat) := hv 6 (by omega)
    obtain rfl : v7 = .slice (some ⟨g, i * 3, none⟩) (l.length - i) (n - i) := hv 7 (by omega)
    clear hv
    simp only [putAll, List.take_succ_cons, List.take_zero, List.drop_succ_cons, List.drop_zero, Act.put, List.setIfInBounds_toArray, List.set_cons_succ, List.set_cons_zero]
    have hb4 : Below w.heap.size w w3 := HB2.out.trans ((below_trans (by repeat (first | exact Below.refl _ _ | (refine Below.drew ?_) | (refine below_drewN' ?_ _) | (refine below_alloc' ?_ _) | (refine Below.setCell ?_ (by first | exact Nat.le_refl _ | (simp; done) | (simp; omega)) _))) hb3).mono HB2.out.size)
    have hHw : w.heap.size < w2.heap.size := HK2.out.lt
    have hk3 : KL w3 w.heap.size G ((cellsK (l.take i) ++ cellsK [c]) ++ R2.drop 3 ++ R3) := by
      have hbb : Below w2.heap.size w2 w3 := below_trans (by repeat (first | exact Below.refl _ _ | (refine Below.drew ?_) | (refine below_drewN' ?_ _) | (refine below_alloc' ?_ _) | (refine Below.setCell ?_ (by first | exact Nat.le_refl _ | (simp; done) | (simp; omega)) _))) hb3
      refine ⟨(hbb.block _ hHw).trans ?_, ?_⟩
      · have := HK2.out.1; simp only [List.append_assoc] at this ⊢; exact this
      · have := HK2.out.2; simp only [List.append_assoc] at this ⊢; exact this
    have hl3 : w3.heap[g]? = some (.cells (cellsK l ++ rest).toArray 324 (0, 0)) := (hb4.block g HD.out.2.2.2.2.2.2.2.1).trans HL.out.1
    have hcl : (cellsK (l.drop i)).length = (l.length - i) * 3 := by rw [cellsK_length, List.length_drop]
    refine wpList_copy3 rfl (.tmp 50) (.tmp 53) rfl w.heap.size G ((i + 1) * 3) (l.length - i) (G - (i + 1)) ⟨g, i * 3, none⟩ (l.length - i) (n - i) _ _ _ (cellsK (l.drop i)) rfl rfl hk3 ?_ ?_ ?_ ?_ (cellsK_one _) ?_
    · rw [List.length_append, cellsK_length, List.length_take]; have := HD.out.1; show _ = _ + 3; omega
    · rw [hcl, List.length_drop]; have := HD.out.2.2.2.2.2.2.2.2.2; have := HD.out.1; omega
    · rw [hcl, show Nat.min (l.length - i) (l.length - i) = l.length - i from Nat.min_self _]
    · intro j x hj
      rw [addr_off]
      have hlt : j < (l.length - i) * 3 := by have := (List.getElem?_eq_some_iff.1 hj).1; omega
      rw [← cellsK_drop, List.getElem?_drop] at hj
      unfold World.cell?
      simp only [hl3]
      simp only [Option.isSome_none, Bool.false_eq_true, if_false, List.getElem?_toArray]
      rw [List.getElem?_append_left (by rw [cellsK_length]; have := HD.out.1; omega)]
      exact hj
    intro w4 hk4 hb5 hoth
    have hB5 : Below W.heap.size W w4 := hb5 _ _ (HB.out.trans (hb4.mono HB.out.size)) HD.out.2.2.2.2.2.2.2.2.1
    have e5 : (cellsK (l.take i) ++ cellsK [c]) ++ cellsK (l.drop i) ++ R3 = cellsK (l.take i ++ c :: l.drop i) ++ R3 := by
      rw [← cellsK_append, ← cellsK_append, List.append_assoc (l.take i), List.singleton_append]
    rw [e5] at hk4
    have e6 : (l.take i ++ c :: l.drop i).length = l.length + 1 := by rw [List.length_append, List.length_cons, List.length_take, List.length_drop]; have := HD.out.1; omega
    have HR5 := Lib.hid (show InsP W (l.take i ++ c :: l.drop i) (.returned (.slice (some ⟨w.heap.size, 0, none⟩) (l.length + 1) G)) w4 from ⟨_, rfl, by have := hk4.kr.own HD.out.2.2.2.2.2.2.2.2.1 HD.out.2.2.2.2.2.2.1; rw [e6] at this; exact this, hB5⟩)
    clear hk4 hb5 hoth hB5 e5 e6 hk3 hl3 hb4 hb3 hcl
    go_wp2_with fail
    go_ret
    exact HR5.out

/-- Insert, whatever place and room -/
theorem ins_any (W w : World) (v : Value) (l : List Cl) (i : Nat) (c : Cl) (vb cc : Nat) (hown : OwnK W w v l) (hx : SrcB w vb c) (hvb : ∀ b, v.ownBlock = some b → vb ≠ b) (hi : i ≤ l.length) (hb : Below W.heap.size W w) (hlen : l.length ≤ 65536) :
    Calls Tryz.prog 224 #[v, .int .i64 (i : Nat), .slice (some ⟨vb, 0, none⟩) 1 cc] w fun e w' => InsP W (l.take i ++ c :: l.drop i) e w' := by
  by_cases he : i = l.length
  · subst he
    have := ins_end W w v l c vb cc hown hx hb hlen
    rwa [List.take_length, List.drop_length]
  · obtain ⟨g, n, rfl, hg, hk, hn⟩ := hown.kr (by intro h; subst h; exact he (Nat.le_zero.1 hi))
    by_cases hr : l.length + 1 ≤ n
    · exact ins_room W w g n l i c vb cc hk hg hn hx (hvb g rfl) (by omega) hr hb hlen
    · exact ins_grow W w g n l i c vb cc hk hg hn hx (by omega) (by omega) hb hlen
end Go.Proofs.YtdkomhmciihkiaaGreat
/-! SlF -/
namespace Go.Proofs.YtdkomhmciihkiaaGreat
open Go.RowKit
set_option linter.unusedVariables false
set_option linter.unusedSimpArgs false

def ckOk (k : Nat) (a : Int) : Bool := decide (0 ≤ a ∧ a < ((2 ^ k : Nat) : Int))
def ckC (k : Nat) (a : Int) : Int := if ckOk k a then 0 else 3
set_option maxRecDepth 100000 in
theorem check_any (b k : Nat) (a : Int) (w : World) (h0 : w.cell? ⟨b, 0, none⟩ = some (.int .i64 (k : Nat))) (hk : k ≤ 16) :
    Calls Tryz.prog 220 #[.pointer (some ⟨b, 0, none⟩), .int .i64 a] w fun e w' => e = .returned (.int .i64 (ckC k a)) ∧ w' = w := by
  have hb := World.block_lt_of_cell? w _ h0
  have hp := pow_le k hk
  obtain ⟨N, hN⟩ : ∃ N, 2 ^ k = N := ⟨_, rfl⟩
  have hs : wrap64 ((2 : Int) ^ k) = (N : Int) := by
    rw [show ((2 : Int) ^ k) = ((2 ^ k : Nat) : Int) from (Int.natCast_pow 2 k).symm, hN]
    rw [hN] at hp
    unfold wrap64; omega
  have HS := Lib.hid (show ((2 : Int) ^ k) = (N : Int) by rw [show ((2 : Int) ^ k) = ((2 ^ k : Nat) : Int) from (Int.natCast_pow 2 k).symm, hN])
  have HE := Lib.hid (show ckC k a = if 0 ≤ a ∧ a < (N : Int) then 0 else 3 by unfold ckC ckOk; rw [hN]; simp)
  clear hN hp
  by_cases h1 : a < 0
  · go_enter Tryz.func220, Tryz.ntmps220
    go_wp2_with fail
    go_ret
    exact ⟨by rw [HE.out, if_neg (by omega)] <;> rfl, rfl⟩
  · by_cases h2 : a ≥ (N : Int)
    · go_enter Tryz.func220, Tryz.ntmps220
      go_wp2_with fail
      all_goals go_ret
      all_goals exact ⟨by rw [HE.out, if_neg (by omega)] <;> rfl, rfl⟩
    · go_enter Tryz.func220, Tryz.ntmps220
      go_wp2_with fail
      all_goals go_ret
      all_goals exact ⟨by rw [HE.out, if_pos (by omega)] <;> rfl, rfl⟩

theorem place_lt_len {l : List (Nat × Nat)} {a : Nat} (h : (Od.place ka a l).2 = true) : ∃ hi : (Od.place ka a l).1 < l.length, l[(Od.place ka a l).1].1 = a := Od.place_lt h
/-- Put, as the list has it -/
theorem ins_at {l : List (Nat × Nat)} {a x : Nat} (h : Od.Asc ka l) : Od.ins ka (a, x) l = if (Od.place ka a l).2 then l.set (Od.place ka a l).1 (a, x) else l.take (Od.place ka a l).1 ++ (a, x) :: l.drop (Od.place ka a l).1 := by
  induction l with
  | nil => rfl
  | cons y l ih =>
    unfold Od.ins Od.place
    show (if y.1 < a then _ else if y.1 = a then _ else _) = _
    by_cases h1 : y.1 < a
    · rw [if_pos h1, ih h.tail]
      rw [if_pos (show ka y < a from h1)]
      cases (Od.place ka a l).2 <;> simp
    · rw [if_neg h1, if_neg (show ¬ ka y < a from h1)]
      by_cases h2 : y.1 = a
      · rw [if_pos h2]; simp [show ka y = a from h2]
      · rw [if_neg h2]; simp [show ¬ ka y = a from h2]
theorem Rw.ins {k : Nat} {l : List (Nat × Nat)} (h : Rw k l) {a x : Nat} (ha : a < 2 ^ k) : Rw k (Od.ins ka (a, x) l) :=
  ⟨(Od.asc_ins h.asc).1, fun y hy => by
    rcases Od.mem_ins hy with rfl | hy
    · exact ha
    · exact h.lt y hy⟩
theorem Rw.del {k : Nat} {l : List (Nat × Nat)} (h : Rw k l) (a : Nat) : Rw k (Od.del ka a l) := ⟨(Od.asc_del h.asc).1, fun y hy => h.lt y (Od.mem_del hy)⟩
theorem map_set_taken (l : List (Nat × Nat)) (i a x : Nat) (hi : i < l.length) (ha : l[i].1 = a) : (l.map takenC).set i { (l.map takenC)[i]'(by rw [List.length_map]; exact hi) with x := some x } = (l.set i (a, x)).map takenC := by
  rw [List.map_set]
  congr 1
  rw [List.getElem_map, takenC, takenC, ha]
/-- what Put hands back: slots and a code -/
def SlT (W : World) (k : Nat) (l : List (Nat × Nat)) (e : Ending) (w' : World) : Prop := ∃ g, e = .returned (.tuple #[.pointer (some ⟨g, 0, none⟩), .int .i64 0]) ∧ SlR w' g k l ∧ Below W.heap.size W w'

set_option maxRecDepth 100000 in
set_option maxHeartbeats 2000000 in
theorem put_any (b k a x : Nat) (l : List (Nat × Nat)) (w : World) (hs : SlR w b k l) (ha : a < 2 ^ k) :
    Calls Tryz.prog 172 #[.pointer (some ⟨b, 0, none⟩), .int .i64 (a : Nat), pv (some x)] w fun e w' => SlT w k (Od.ins ka (a, x) l) e w' := by
  obtain ⟨v, g2, hr⟩ := hs.c2
  have hp := pow_le k hs.k16
  have hlen := hs.rw'.len
  have HCK := Lib.hid (fun w' h0 => check_any b k (a : Nat) w' h0 hs.k16)
  rw [show ckC k ((a : Nat) : Int) = 0 by unfold ckC ckOk; rw [if_pos]; exact decide_eq_true (by omega)] at HCK
  have HTH := Lib.hid (things_any b (lay k l) v w g2 hr (lay_len hs.rw' hs.k16))
  rw [has_lay hs.rw'] at HTH
  have HBS := Lib.hid (fun v' w' h => bsf_any l a v' w' h hs.rw'.asc (fun y hy => by have := hs.rw'.lt y hy; omega) (by omega) (by omega))
  have hkp := fun v' w' h ht => kept_any k (Od.ins ka (a, x) l) v' w' h ht (hs.rw'.ins ha) hs.k1 hs.k16
  have HKP := Lib.hid hkp
  have HAT := Lib.hid (ins_at (a := a) (x := x) hs.rw'.asc)
  have HPL := Lib.hid (fun h => place_lt_len (l := l) (a := a) h)
  have HLE := Lib.hid (Od.place_le ka a l)
  have g0 := hs.c0
  have HG0 := Lib.hid g0
  have hb := World.block_lt_of_cell? w _ g0
  have HLN := Lib.hid (And.intro hlen hp)
  generalize Od.ins ka (a, x) l = L at *
  generalize (Od.place ka a l).1 = i at *
  generalize (Od.place ka a l).2 = fl at *
  clear hkp hs hr hp hlen ha g2
  simp only [pv, Option.map_some]
  go_enter Tryz.func172, Tryz.ntmps172
  go_wp2_with fail
  refine (HCK.out _ g0).mono ?_
  rintro e w1 ⟨rfl, hw⟩
  obtain rfl := hw.symm
  go_wp2_with fail
  refine HTH.out.mono ?_
  rintro e w2 ⟨v2, rfl, hown, hb2⟩
  have hsh := hown.shape
  rw [List.length_map] at hsh
  obtain ⟨A, cp, rfl, hcp⟩ := hsh
  have HO2 := Lib.hid (And.intro hown hb2)
  clear hown hb2 hcp
  go_wp2_with fail
  refine (HBS.out _ _ HO2.out.1.rd).mono ?_
  rintro e w3 ⟨rfl, hb3⟩
  have HO3 := Lib.hid (And.intro (HO2.out.1.below hb3) (HO2.out.2.trans (hb3.mono HO2.out.2.size)))
  clear hb3
  cases fl with
  | true =>
    obtain ⟨hil, hia⟩ := HPL.out rfl
    have HL := Lib.hid (show L = l.set i (a, x) by rw [HAT.out]; rfl)
    obtain ⟨g, n, e1, hg, hk, hn⟩ := HO3.out.1.kr (by intro h; rw [List.map_eq_nil_iff] at h; subst h; exact absurd hil (by simp))
    rw [List.length_map] at e1
    injection e1 with e1 e2 e3
    subst e1 e3
    obtain ⟨u, hu⟩ := hk.room (i * 3 + 1) (by have := hk.le; rw [List.length_map] at this; omega)
    have hf := hk.thaw (i * 3 + 1)
    have hgl := hk.lt
    have hset := hk.setX i (some x) (by rw [List.length_map]; exact hil)
    rw [map_set_taken l i a x hil hia, ← HL.out] at hset
    have hlL : L.length = l.length := by rw [HL.out, List.length_set]
    have hrd := hset.rd hn
    have HR := Lib.hid hrd
    have HTR := Lib.hid (hset.ty 0 l.length cp)
    have hB := HO3.out.2.setCell (p := ⟨g, i * 3 + 1, none⟩) hg (pv (some x))
    have HB := Lib.hid hB
    have G0 := Below.keeps hB _ _ HG0.out
    simp only [pv, Option.map_some] at G0 HR HB HTR
    have hbg := World.block_lt_of_cell? _ _ G0
    have h3 : (i : Int) < (l.length : Int) := by omega
    have h4 : (0 : Int) ≤ (i : Int) := by omega
    rw [List.length_map, hlL] at HR
    clear hil hia hk hset hlL hrd hB
    go_wp2_with fail
    refine (HKP.out _ _ HR.out HTR.out).mono ?_
    rintro e w4 ⟨g4, rfl, hs4, hb4⟩
    have HF := Lib.hid (And.intro hs4 (HB.out.trans (hb4.mono HB.out.size)))
    clear hs4 hb4
    go_wp2_with fail
    go_ret2
    exact ⟨g4, rfl, HF.out⟩
  | false =>
    have HL := Lib.hid (show L = l.take i ++ (a, x) :: l.drop i by rw [HAT.out]; rfl)
    go_wp2_with fail
    refine (ins_any w _ (.slice A l.length cp) (l.map takenC) i (takenC (a, x)) w3.heap.size 1 (HO3.out.1.alloc _) ⟨⟨by simp [go_sem, takenC], by simp [go_sem, takenC, pv], by simp [go_sem, takenC]⟩, _, _, by show (w3.heap.push _)[w3.heap.size]? = _; simp; exact ⟨rfl, rfl⟩⟩ (fun q hq => by obtain ⟨_, cur, h⟩ := HO3.out.1.block q hq; have := kr_lt h; omega) (by rw [List.length_map]; exact HLE.out) (below_alloc' HO3.out.2 _) (by rw [List.length_map]; have := HLN.out; omega)).mono ?_
    rintro e w4 ⟨v4, rfl, hown4, hb4⟩
    rw [← List.map_take, ← List.map_drop, ← List.map_cons, ← List.map_append, ← HL.out] at hown4
    have G0 := Below.keeps hb4 _ _ HG0.out
    have HO4 := Lib.hid (And.intro hown4 hb4)
    clear hown4 hb4
    have hbg := World.block_lt_of_cell? _ _ G0
    go_wp2_with fail
    refine (HKP.out _ _ HO4.out.1.rd HO4.out.1.ty).mono ?_
    rintro e w5 ⟨g5, rfl, hs5, hb5⟩
    have HF := Lib.hid (And.intro hs5 (HO4.out.2.trans (hb5.mono HO4.out.2.size)))
    clear hs5 hb5
    go_wp2_with fail
    go_ret2
    exact ⟨g5, rfl, HF.out⟩
end Go.Proofs.YtdkomhmciihkiaaGreat
/-! Region2 -/
namespace Go
open Go.RowKit
set_option linter.unusedVariables false

/-- what an operation does to the world -/
def Step2 (sp : Nat) (late : Nat → Bool) (Sp : World → World → Prop) (i : Nat) (w w' : World) : Prop := if i = sp then Sp w w' else match late i with | true => w' = w | false => Below w.heap.size w w'
theorem step_early {sp : Nat} {late : Nat → Bool} {Sp : World → World → Prop} {i : Nat} {w w' : World} (h : i ≠ sp) (hl : late i = false) (hb : Below w.heap.size w w') : Step2 sp late Sp i w w' := by
  unfold Step2; rw [if_neg h, hl]; exact hb
theorem step_late {sp : Nat} {late : Nat → Bool} {Sp : World → World → Prop} {i : Nat} {w : World} (h : i ≠ sp) (hl : late i = true) : Step2 sp late Sp i w w := by
  unfold Step2; rw [if_neg h, hl]
theorem step_sp {sp : Nat} {late : Nat → Bool} {Sp : World → World → Prop} {w w' : World} (h : Sp w w') : Step2 sp late Sp sp w w' := by
  unfold Step2; rw [if_pos rfl]; exact h
/-- must operation i be done ahead of operation j? -/
def ancB (ops : Array Oper) : Nat → Nat → Nat → Bool
  | 0, _, _ => false
  | f + 1, i, j => match ops[j]? with | some o => o.after.any (fun e => Region.binds .any e && (e.on == i || ancB ops f i e.on)) | none => false
theorem anc_listed {ops : Array Oper} {n : Nat} {listed : Array Bool} (h : HeadInv .any ops n listed) : ∀ (f i j : Nat), ancB ops f i j = true → listed.getD j false = true → listed.getD i false = true
  | 0, _, _, h1, _ => by cases h1
  | f + 1, i, j, h1, h2 => by
    unfold ancB at h1
    cases ho : ops[j]? with
    | none => rw [ho] at h1; cases h1
    | some o =>
      rw [ho] at h1
      have h1 : o.after.any (fun e => Region.binds .any e && (e.on == i || ancB ops f i e.on)) = true := h1
      rw [Array.any_eq_true] at h1
      obtain ⟨q, hq, h4⟩ := h1
      simp only [Bool.and_eq_true, Bool.or_eq_true, beq_iff_eq] at h4
      obtain ⟨hb, h3⟩ := h4
      generalize hge : o.after[q] = e at *
      have he : e ∈ o.after := hge ▸ Array.getElem_mem hq
      have hl := h.closed j o ho h2 e he hb
      rcases h3 with h3 | h3
      · rw [← h3]; exact hl
      · exact anc_listed h f i e.on h3 hl

section
variable {P : Program} {ops : Array Oper} {V : Nat → Value → World → Prop} {a0 : Act} {W : World} {Q : Exit → Act → World → Prop} {sp : Nat} {late : Nat → Bool} {Sp : World → World → Prop}

/-- What is known when an operation comes up. -/
structure Known2 (ops : Array Oper) (V : Nat → Value → World → Prop) (a0 : Act) (W : World) (sp : Nat) (late : Nat → Bool) (n i : Nat) (o : Oper) (a : Act) (w : World) : Prop where
  ext : late i = false → Below W.heap.size W w
  same : ∀ t, (∀ oi ∈ ops.toList.take n, oi.dst ≠ some t) → a.tmps.getD t undef = a0.tmps.getD t undef
  deps : ∀ e ∈ o.after, Region.binds .any e = true → ∀ oe d, ops[e.on]? = some oe → oe.dst = some d → V e.on (a.tmps.getD d undef) w

/-- Operation i, whenever it comes up, yields a value of V i, which lasts. -/
def OpOk2 (P : Program) (ops : Array Oper) (V : Nat → Value → World → Prop) (a0 : Act) (W : World) (Q : Exit → Act → World → Prop) (sp : Nat) (late : Nat → Bool) (Sp : World → World → Prop) (n : Nat) (i : Nat) (o : Oper) : Prop :=
  ∀ (a : Act) (w : World) (K : Act → World → Prop), Known2 ops V a0 W sp late n i o a w → (∀ v w', Step2 sp late Sp i w w' → V i v w' → K (a.put o.dst v) w') →
    if Region.wanted o (yielded ops a.tmps) then o.wp P a w K Q else K (a.put o.dst undef) w

/-- The state: some heads are done. -/
structure Midst2 (ops : Array Oper) (V : Nat → Value → World → Prop) (sp : Nat) (n : Nat) (a0 : Act) (W : World) (listed : Array Bool) (a : Act) (w : World) : Prop where
  inv : HeadInv .any ops n listed
  ext : listed.getD sp false = false → Below W.heap.size W w
  size : a.tmps.size = a0.tmps.size
  defers : a.defers = a0.defers
  done : ∀ i o d, ops[i]? = some o → o.dst = some d → listed.getD i false = true → V i (a.tmps.getD d undef) w
  rest : ∀ t, (∀ i o, ops[i]? = some o → listed.getD i false = true → o.dst ≠ some t) → a.tmps.getD t undef = a0.tmps.getD t undef

theorem midst_step2 {n : Nat} (hV : ∀ i v w w', i ≠ sp → V i v w → Below w.heap.size w w' → V i v w') (hS2 : ∀ i v w w', i ≠ sp → V i v w → Sp w w' → V i v w') (hanc : ∀ i, i < n → i ≠ sp → late i = false → ancB ops 30 i sp = true) (hlate : late sp = false) {listed : Array Bool} {a : Act} {w : World} (hD : dstsB ops n a0.tmps.size = true)
    (h : Midst2 ops V sp n a0 W listed a w) {i : Nat} {o : Oper} (hi : i ∈ Region.ready .any ops listed) (hin : i < n) (ho : ops[i]? = some o) {v : Value} {w' : World}
    (hb : Step2 sp late Sp i w w') (hv : V i v w') : Midst2 ops V sp n a0 W (listed.setIfInBounds i true) (a.put o.dst v) w' := by
  simp only [dstsB, Bool.and_eq_true, List.all_eq_true, decide_eq_true_iff] at hD
  have hlt : i < ops.size := (Array.getElem?_eq_some_iff.1 ho).1
  have hmem : o ∈ ops.toList.take n := by
    have : (ops.toList.take n)[i]? = some o := by rw [List.getElem?_take, if_pos hin]; simpa using ho
    exact List.mem_of_getElem? this
  have hd1 := hD.1 o hmem
  cases hod : o.dst with
  | none => rw [hod] at hd1; cases hd1
  | some d =>
    rw [hod] at hd1
    have hds : d < a.tmps.size := by rw [h.size]; simpa using hd1
    have hls : i < listed.size := by rw [h.inv.size]; exact hlt
    have huniq : ∀ j oj, ops[j]? = some oj → j < n → oj.dst = some d → j = i := by
      intro j oj hj hjn hjd
      have hnd := hD.2
      have e1 : ((ops.toList.take n).map (·.dst))[j]? = some (some d) := by
        rw [List.getElem?_map, List.getElem?_take, if_pos hjn]
        have : ops.toList[j]? = some oj := by simpa using hj
        rw [this]; simp [hjd]
      have e2 : ((ops.toList.take n).map (·.dst))[i]? = some (some d) := by
        rw [List.getElem?_map, List.getElem?_take, if_pos hin]
        have : ops.toList[i]? = some o := by simpa using ho
        rw [this]; simp [hod]
      exact (List.getElem?_inj (by
        have := List.getElem?_eq_some_iff.1 e1; exact this.1) hnd).1 (e1.trans e2.symm)
    have hun : listed.getD i false = false := getD_both (mem_ready.1 hi).1
    refine ⟨h.inv.set hi hin, fun hsp => ?_, by simp [Act.put, h.size], h.defers, ?_, ?_⟩
    · rw [getD_set_false hls] at hsp
      by_cases e : sp = i
      · rw [if_pos e] at hsp; cases hsp
      · rw [if_neg e] at hsp
        unfold Step2 at hb
        rw [if_neg (fun h => e h.symm)] at hb
        cases hlt2 : late i with
        | true => rw [hlt2] at hb; obtain rfl : w' = w := hb; exact h.ext hsp
        | false => rw [hlt2] at hb; exact below_trans (h.ext hsp) hb
    · intro j oj dj hj hjd hl
      rw [put_getD _ _ _ _ hds]
      rw [getD_set_false hls] at hl
      have hjn : j < n := by
        by_cases hjn : j < n
        · exact hjn
        · have hjlt : j < ops.size := (Array.getElem?_eq_some_iff.1 hj).1
          have := h.inv.tail j (by omega) hjlt
          have h2 := getD_both this
          rw [if_neg (by omega)] at hl
          rw [h2] at hl; cases hl
      by_cases hji : j = i
      · subst hji
        obtain rfl : oj = o := Option.some.inj (hj.symm.trans ho)
        obtain rfl : dj = d := Option.some.inj (hjd.symm.trans hod)
        rw [if_pos rfl]; exact hv
      · have hne : dj ≠ d := fun e => hji (huniq j oj hj hjn (e ▸ hjd))
        rw [if_neg hne]
        rw [if_neg hji] at hl
        have hd := h.done j oj dj hj hjd hl
        unfold Step2 at hb
        by_cases e : i = sp
        · rw [if_pos e] at hb
          exact hS2 _ _ _ _ (fun h => hji (h.trans e.symm)) hd hb
        · rw [if_neg e] at hb
          cases hlt2 : late i with
          | true => rw [hlt2] at hb; obtain rfl : w' = w := hb; exact hd
          | false =>
            rw [hlt2] at hb
            refine hV _ _ _ _ (fun ej => ?_) hd hb
            have := anc_listed h.inv 30 i sp (hanc i hin e hlt2) (ej ▸ hl)
            rw [this] at hun; cases hun
    · intro t ht
      have hne : t ≠ d := fun e => ht i o ho (by rw [getD_set_false hls, if_pos rfl]) (e ▸ hod)
      rw [put_getD _ _ _ _ hds, if_neg hne]
      refine h.rest t fun j oj hj hl => ht j oj hj ?_
      rw [getD_set_false hls]
      split
      · rfl
      · exact hl

theorem known_of_midst2 {n : Nat} (hanc : ∀ i, i < n → i ≠ sp → late i = false → ancB ops 30 i sp = true) {listed : Array Bool} {a : Act} {w : World} (h : Midst2 ops V sp n a0 W listed a w) {i : Nat} {o : Oper} (hin : i < n) (hi : i ∈ Region.ready .any ops listed) (ho : ops[i]? = some o) :
    Known2 ops V a0 W sp late n i o a w := by
  obtain ⟨hun, o', ho', hall⟩ := mem_ready.1 hi
  obtain rfl : o' = o := Option.some.inj (ho'.symm.trans ho)
  refine ⟨fun hl2 => h.ext ?_, fun t ht => h.rest t fun j oj hj hl => ht oj ?_, fun e he hb oe d hoe hd => h.done _ _ _ hoe hd (hall e he hb)⟩
  case refine_1 =>
    by_cases e : i = sp
    · rw [← e]; exact getD_both hun
    · cases hsp : listed.getD sp false with
      | false => rfl
      | true =>
        have := anc_listed h.inv 30 i sp (hanc i hin e hl2) hsp
        rw [getD_both hun] at this; cases this
  have hjn : j < n := by
    by_cases hjn : j < n
    · exact hjn
    · have hjlt : j < ops.size := (Array.getElem?_eq_some_iff.1 hj).1
      have := h.inv.tail j (by omega) hjlt
      have h2 := getD_both this
      rw [h2] at hl; cases hl
  have : (ops.toList.take n)[j]? = some oj := by rw [List.getElem?_take, if_pos hjn]; simpa using hj
  exact List.mem_of_getElem? this

theorem wpAny_of_vals2 {n g : Nat} (hV : ∀ i v w w', i ≠ sp → V i v w → Below w.heap.size w w' → V i v w') (hS2 : ∀ i v w w', i ≠ sp → V i v w → Sp w w' → V i v w') (hanc : ∀ i, i < n → i ≠ sp → late i = false → ancB ops 30 i sp = true) (hlate : late sp = false) (hD : dstsB ops n a0.tmps.size = true)
    (hok : ∀ i o, i < n → ops[i]? = some o → OpOk2 P ops V a0 W Q sp late Sp n i o)
    (hwait : ∀ listed, HeadInv .any ops n listed → ∀ i, i < n → listed.getD i true = false → (∃ j, j ∈ Region.ready .any ops listed) ∧ ∀ j ∈ Region.ready .any ops listed, j < n)
    (hfin : ∀ listed a w, Midst2 ops V sp n a0 W listed a w → (∀ i, i < n → listed.getD i false = true) → wpAny P .any ops Q g listed a w) :
    ∀ (f : Nat) (listed : Array Bool) (a : Act) (w : World), n ≤ ops.size → todo listed n = f → Midst2 ops V sp n a0 W listed a w → wpAny P .any ops Q (f + g) listed a w := by
  intro f
  induction f with
  | zero =>
    intro listed a w hns hf h
    rw [Nat.zero_add]
    refine hfin listed a w h fun i hi => ?_
    cases hl : listed.getD i false with
    | true => rfl
    | false =>
      exfalso
      have hm : i ∈ (List.range n).filter fun i => !listed.getD i false := List.mem_filter.2 ⟨List.mem_range.2 hi, by rw [hl]; rfl⟩
      unfold todo at hf
      rw [List.length_eq_zero_iff] at hf
      rw [hf] at hm; cases hm
  | succ f ih =>
    intro listed a w hns hf h
    rw [show f + 1 + g = (f + g) + 1 by omega]
    obtain ⟨i, hin, hun⟩ : ∃ i, i < n ∧ listed.getD i false = false := by
      unfold todo at hf
      have : ((List.range n).filter fun i => !listed.getD i false) ≠ [] := by intro e; rw [e] at hf; cases hf
      obtain ⟨i, hi⟩ := List.exists_mem_of_ne_nil _ this
      obtain ⟨h1, h2⟩ := List.mem_filter.1 hi
      exact ⟨i, List.mem_range.1 h1, by simpa using h2⟩
    have hun' : listed.getD i true = false := getD_in (by rw [h.inv.size]; omega) hun
    obtain ⟨⟨j0, hj0⟩, hall⟩ := hwait listed h.inv i hin hun'
    refine ⟨fun e => (by rw [e] at hj0; cases hj0), fun j hj => ?_⟩
    have hjn := hall j hj
    obtain ⟨hju, o, ho, _⟩ := mem_ready.1 hj
    refine wpOp_of_ok ho (hok j o hjn ho a w _ (known_of_midst2 hanc h hjn hj ho) fun v w' hb hv => ?_)
    refine ih _ _ _ hns ?_ (midst_step2 hV hS2 hanc hlate hD h hj hjn ho hb hv)
    have := todo_set (listed := listed) hjn (by rw [h.inv.size]; omega) (getD_both hju)
    omega
end

theorem wp_region_late (sp : Nat) (late : Nat → Bool) (Sp : World → World → Prop) {P : Program} {id : Nat} {Q : Exit → Act → World → Prop} {a0 : Act} {w : World} {l : List Oper} (n : Nat) (Vs : List (Value → World → Prop)) (hm : P.follows .mixedOrders = true)
    (hB : (Region.lexReady l.toArray n && decide (n < l.length) && Region.sinkB .any l.toArray n && Region.chainB .any l.toArray n) = true)
    (hS : Region.seqB .any l.toArray (l.length - n) n ((Array.replicate n true) ++ Array.replicate (l.length - n) false) = true)
    (hD : dstsB l.toArray n a0.tmps.size = true)
    (hV : ∀ i V, i ≠ sp → Vs[i]? = some V → ∀ v w w', V v w → Below w.heap.size w w' → V v w') (hV2 : ∀ i V, i ≠ sp → Vs[i]? = some V → ∀ v w w', V v w → Sp w w' → V v w')
    (hanc : ((List.range n).all fun i => i == sp || late i || ancB l.toArray 30 i sp) = true) (hlate : late sp = false)
    (hok : ∀ i o, i < n → l[i]? = some o → OpOk2 P l.toArray (nthV Vs) a0 w.drew Q sp late Sp n i o)
    (hfin : ∀ (vs : List Value) (w' : World), vs.length = n → (∀ i, i < n → nthV Vs i (vs.getD i undef) w') → wpList P l.toArray Q (l.drop n) (putAll a0 (l.take n) vs) w') :
    (Code.region id l.toArray true).wp P Q a0 w := by
  simp only [Bool.and_eq_true, decide_eq_true_iff] at hB
  obtain ⟨⟨⟨hlex, hn⟩, hsink⟩, hchain⟩ := hB
  have hsz : l.toArray.size = l.length := by simp
  have hV' : ∀ i v w w', i ≠ sp → nthV Vs i v w → Below w.heap.size w w' → nthV Vs i v w' := by
    intro i v w1 w2 hne h hb
    unfold nthV at *
    split
    · rename_i V hi; rw [hi] at h; exact hV i V hne hi _ _ _ h hb
    · trivial
  have hV2' : ∀ i v w w', i ≠ sp → nthV Vs i v w → Sp w w' → nthV Vs i v w' := by
    intro i v w1 w2 hne h hb
    unfold nthV at *
    split
    · rename_i V hi; rw [hi] at h; exact hV2 i V hne hi _ _ _ h hb
    · trivial
  have hanc' : ∀ i, i < n → i ≠ sp → late i = false → ancB l.toArray 30 i sp = true := by
    intro i hi hne hl
    have := List.all_eq_true.1 hanc i (List.mem_range.2 hi)
    simpa [hl, hne] using this
  refine wp_region_any hm ?_
  have inv0 : HeadInv .any l.toArray n (Array.replicate l.toArray.size false) :=
    ⟨by simp, fun j oj _ hl => (by rw [getD_replicate_false] at hl; cases hl), fun t _ ht => getD_in (by simpa using ht) (getD_replicate_false _ _)⟩
  have htodo : todo (Array.replicate l.toArray.size false) n = n := by
    unfold todo
    rw [List.filter_eq_self.2 (fun i _ => by rw [getD_replicate_false]; rfl), List.length_range]
  have := wpAny_of_vals2 (P := P) (ops := l.toArray) (V := nthV Vs) (a0 := a0) (W := { w with drawn := w.drawn + 1 }) (Q := Q) (n := n) (g := l.length - n) hV' hV2' hanc' hlate hD
    (fun i o hi ho => hok i o hi (by simpa using ho))
    (fun listed inv i hi hu => ⟨(ready_of_lex hlex inv.size (by omega) i hi hu).imp fun j h => h.2, fun j hj => by
      rcases Nat.lt_or_ge j n with h | h
      · exact h
      · exact absurd hj (tail_waits hsink hchain (by simpa using hn) inv _ i rfl hi hu j h)⟩)
    (fun listed a w' h hall => by
      have hlisted : listed = (Array.replicate n true) ++ Array.replicate (l.length - n) false := by
        apply Array.ext
        · rw [h.inv.size]; simp; omega
        · intro i h1 h2
          by_cases hi : i < n
          · have := hall i hi
            simp only [Array.getD_eq_getD_getElem?, Array.getElem?_eq_getElem h1, Option.getD_some] at this
            rw [this, Array.getElem_append_left (by simpa using hi)]; simp
          · have := getD_both (h.inv.tail i (by omega) (by rw [← h.inv.size]; exact h1))
            simp only [Array.getD_eq_getD_getElem?, Array.getElem?_eq_getElem h1, Option.getD_some] at this
            rw [this, Array.getElem_append_right (by simpa using hi)]; simp
      subst hlisted
      have hdl : (l.drop n).length = l.length - n := by simp
      have htake : (l.take n).length = n := by simp; omega
      obtain ⟨hD1, hD2⟩ : (∀ o ∈ l.take n, ∃ d, o.dst = some d ∧ d < a0.tmps.size) ∧ ((l.take n).map (·.dst)).Nodup := by
        simp only [dstsB, Bool.and_eq_true, List.all_eq_true, decide_eq_true_iff] at hD
        refine ⟨fun o ho => ?_, by simpa using hD.2⟩
        have := hD.1 o (by simpa using ho)
        cases hod : o.dst with
        | none => rw [hod] at this; cases this
        | some d => rw [hod] at this; exact ⟨d, rfl, by simpa using this⟩
      have ha : a = putAll a0 (l.take n) ((l.take n).map fun o => match o.dst with | some d => a.tmps.getD d undef | none => undef) := by
        refine act_ext ?_ ?_ ?_
        · rw [(putAll_get _ _ a0 0 (by simp) hD1 hD2).1, h.size]
        · rw [(putAll_get _ _ a0 0 (by simp) hD1 hD2).2.1, h.defers]
        · intro t
          obtain ⟨_, _, h3, h4⟩ := putAll_get (l.take n) ((l.take n).map fun o => match o.dst with | some d => a.tmps.getD d undef | none => undef) a0 t (by simp) hD1 hD2
          by_cases hex : ∃ i, ∃ hi : i < (l.take n).length, (l.take n)[i].dst = some t
          · obtain ⟨i, hi, ht⟩ := hex
            exact (h3 i hi (a.tmps.getD t undef) (by rw [List.getElem?_map, List.getElem?_eq_getElem hi, Option.map_some, ht]) ht).symm
          · rw [h4 fun o ho e => by
              obtain ⟨i, hi, rfl⟩ := List.getElem_of_mem ho
              exact hex ⟨i, hi, e⟩]
            refine h.rest t fun i o ho hl e => ?_
            have hin : i < n := by
              rcases Nat.lt_or_ge i n with h' | h'
              · exact h'
              · have hlt : i < l.toArray.size := (Array.getElem?_eq_some_iff.1 ho).1
                have := getD_both (h.inv.tail i h' hlt)
                rw [this] at hl; cases hl
            have ho' : l[i]? = some o := by simpa using ho
            have hlt : i < l.length := (List.getElem?_eq_some_iff.1 ho').1
            refine hex ⟨i, by simp; omega, ?_⟩
            rw [List.getElem_take]
            have : l[i] = o := by rw [List.getElem?_eq_getElem hlt] at ho'; exact Option.some.inj ho'
            rw [this]; exact e
      have hw := hfin ((l.take n).map fun o => match o.dst with | some d => a.tmps.getD d undef | none => undef) w' (by simp; omega) (fun i hi => by
        have hlt : i < l.length := by omega
        have hmem : l[i] ∈ l.take n := List.mem_of_getElem? (i := i) (by rw [List.getElem?_take, if_pos hi, List.getElem?_eq_getElem hlt])
        obtain ⟨d, hd, _⟩ := hD1 _ hmem
        have e : (((l.take n).map fun o => match o.dst with | some d => a.tmps.getD d undef | none => undef).getD i undef) = a.tmps.getD d undef := by
          rw [List.getD_eq_getElem?_getD, List.getElem?_map, List.getElem?_take, if_pos hi, List.getElem?_eq_getElem hlt]
          simp [hd]
        rw [e]
        exact h.done i l[i] d (by simp [hlt]) hd (hall i hi))
      rw [← ha] at hw
      have := wpAny_of_seq (md := .any) (Q' := Q) (l.drop n) n _ a w' (fun j => by simp [List.getElem?_drop]) (by rw [hdl]; exact hS) hw
      rwa [hdl] at this)
    n (Array.replicate l.toArray.size false) a0 { w with drawn := w.drawn + 1 } (by simpa using Nat.le_of_lt hn) htodo
    ⟨inv0, fun _ => Below.refl _ _, rfl, rfl, fun i o d _ _ hl => (by rw [getD_replicate_false] at hl; cases hl), fun t _ => rfl⟩
  rw [hsz]
  rw [hsz] at this
  rwa [show n + (l.length - n) = l.length by omega] at this
end Go
/-! Region3 -/
namespace Go
open Go.RowKit
set_option linter.unusedVariables false

section
variable {P : Program} {ops : Array Oper} {V : Nat → Value → World → Prop} {a0 : Act} {W : World} {Q : Exit → Act → World → Prop} {sp : Nat} {P0 P1 : World → Prop} {Step : Nat → World → World → Prop}

/-- What is known when an operation comes up. -/
structure Known3 (ops : Array Oper) (V : Nat → Value → World → Prop) (a0 : Act) (sp : Nat) (P0 P1 : World → Prop) (n i : Nat) (o : Oper) (a : Act) (w : World) : Prop where
  p0 : (i == sp || ancB ops 30 i sp) = true → P0 w
  p1 : P1 w
  same : ∀ t, (∀ oi ∈ ops.toList.take n, oi.dst ≠ some t) → a.tmps.getD t undef = a0.tmps.getD t undef
  deps : ∀ e ∈ o.after, Region.binds .any e = true → ∀ oe d, ops[e.on]? = some oe → oe.dst = some d → V e.on (a.tmps.getD d undef) w

/-- Operation i, whenever it comes up, yields a value of V i, which lasts. -/
def OpOk3 (P : Program) (ops : Array Oper) (V : Nat → Value → World → Prop) (a0 : Act) (Q : Exit → Act → World → Prop) (sp : Nat) (P0 P1 : World → Prop) (Step : Nat → World → World → Prop) (n : Nat) (i : Nat) (o : Oper) : Prop :=
  ∀ (a : Act) (w : World) (K : Act → World → Prop), Known3 ops V a0 sp P0 P1 n i o a w → (∀ v w', Step i w w' → V i v w' → K (a.put o.dst v) w') →
    if Region.wanted o (yielded ops a.tmps) then o.wp P a w K Q else K (a.put o.dst undef) w

/-- The state: some heads are done. -/
structure Midst3 (ops : Array Oper) (V : Nat → Value → World → Prop) (sp : Nat) (P0 P1 : World → Prop) (n : Nat) (a0 : Act) (listed : Array Bool) (a : Act) (w : World) : Prop where
  inv : HeadInv .any ops n listed
  p0 : listed.getD sp false = false → P0 w
  p1 : P1 w
  size : a.tmps.size = a0.tmps.size
  defers : a.defers = a0.defers
  done : ∀ i o d, ops[i]? = some o → o.dst = some d → listed.getD i false = true → V i (a.tmps.getD d undef) w
  rest : ∀ t, (∀ i o, ops[i]? = some o → listed.getD i false = true → o.dst ≠ some t) → a.tmps.getD t undef = a0.tmps.getD t undef

theorem midst_step3 {n : Nat} (hV : ∀ i j v w w', i < n → j < n → i ≠ j → ancB ops 30 j i = false → V i v w → Step j w w' → V i v w') (hP0 : ∀ j w w', j < n → j ≠ sp → P0 w → Step j w w' → P0 w') (hP1 : ∀ j w w', j < n → P1 w → Step j w w' → P1 w') {listed : Array Bool} {a : Act} {w : World} (hD : dstsB ops n a0.tmps.size = true)
    (h : Midst3 ops V sp P0 P1 n a0 listed a w) {i : Nat} {o : Oper} (hi : i ∈ Region.ready .any ops listed) (hin : i < n) (ho : ops[i]? = some o) {v : Value} {w' : World}
    (hb : Step i w w') (hv : V i v w') : Midst3 ops V sp P0 P1 n a0 (listed.setIfInBounds i true) (a.put o.dst v) w' := by
  simp only [dstsB, Bool.and_eq_true, List.all_eq_true, decide_eq_true_iff] at hD
  have hlt : i < ops.size := (Array.getElem?_eq_some_iff.1 ho).1
  have hmem : o ∈ ops.toList.take n := by
    have : (ops.toList.take n)[i]? = some o := by rw [List.getElem?_take, if_pos hin]; simpa using ho
    exact List.mem_of_getElem? this
  have hd1 := hD.1 o hmem
  cases hod : o.dst with
  | none => rw [hod] at hd1; cases hd1
  | some d =>
    rw [hod] at hd1
    have hds : d < a.tmps.size := by rw [h.size]; simpa using hd1
    have hls : i < listed.size := by rw [h.inv.size]; exact hlt
    have huniq : ∀ j oj, ops[j]? = some oj → j < n → oj.dst = some d → j = i := by
      intro j oj hj hjn hjd
      have hnd := hD.2
      have e1 : ((ops.toList.take n).map (·.dst))[j]? = some (some d) := by
        rw [List.getElem?_map, List.getElem?_take, if_pos hjn]
        have : ops.toList[j]? = some oj := by simpa using hj
        rw [this]; simp [hjd]
      have e2 : ((ops.toList.take n).map (·.dst))[i]? = some (some d) := by
        rw [List.getElem?_map, List.getElem?_take, if_pos hin]
        have : ops.toList[i]? = some o := by simpa using ho
        rw [this]; simp [hod]
      exact (List.getElem?_inj (by
        have := List.getElem?_eq_some_iff.1 e1; exact this.1) hnd).1 (e1.trans e2.symm)
    have hun : listed.getD i false = false := getD_both (mem_ready.1 hi).1
    refine ⟨h.inv.set hi hin, fun hsp => ?_, hP1 i _ _ hin h.p1 hb, by simp [Act.put, h.size], h.defers, ?_, ?_⟩
    · rw [getD_set_false hls] at hsp
      by_cases e : sp = i
      · rw [if_pos e] at hsp; cases hsp
      · rw [if_neg e] at hsp
        exact hP0 i _ _ hin (fun h => e h.symm) (h.p0 hsp) hb
    · intro j oj dj hj hjd hl
      rw [put_getD _ _ _ _ hds]
      rw [getD_set_false hls] at hl
      have hjn : j < n := by
        by_cases hjn : j < n
        · exact hjn
        · have hjlt : j < ops.size := (Array.getElem?_eq_some_iff.1 hj).1
          have := h.inv.tail j (by omega) hjlt
          have h2 := getD_both this
          rw [if_neg (by omega)] at hl
          rw [h2] at hl; cases hl
      by_cases hji : j = i
      · subst hji
        obtain rfl : oj = o := Option.some.inj (hj.symm.trans ho)
        obtain rfl : dj = d := Option.some.inj (hjd.symm.trans hod)
        rw [if_pos rfl]; exact hv
      · have hne : dj ≠ d := fun e => hji (huniq j oj hj hjn (e ▸ hjd))
        rw [if_neg hne]
        rw [if_neg hji] at hl
        have hd := h.done j oj dj hj hjd hl
        refine hV j i _ _ _ hjn hin hji ?_ hd hb
        cases han : ancB ops 30 i j with
        | false => rfl
        | true =>
          have := anc_listed h.inv 30 i j han hl
          rw [this] at hun; cases hun
    · intro t ht
      have hne : t ≠ d := fun e => ht i o ho (by rw [getD_set_false hls, if_pos rfl]) (e ▸ hod)
      rw [put_getD _ _ _ _ hds, if_neg hne]
      refine h.rest t fun j oj hj hl => ht j oj hj ?_
      rw [getD_set_false hls]
      split
      · rfl
      · exact hl

theorem known_of_midst3 {n : Nat} {listed : Array Bool} {a : Act} {w : World} (h : Midst3 ops V sp P0 P1 n a0 listed a w) {i : Nat} {o : Oper} (hin : i < n) (hi : i ∈ Region.ready .any ops listed) (ho : ops[i]? = some o) :
    Known3 ops V a0 sp P0 P1 n i o a w := by
  obtain ⟨hun, o', ho', hall⟩ := mem_ready.1 hi
  obtain rfl : o' = o := Option.some.inj (ho'.symm.trans ho)
  refine ⟨fun hl2 => h.p0 ?_, h.p1, fun t ht => h.rest t fun j oj hj hl => ht oj ?_, fun e he hb oe d hoe hd => h.done _ _ _ hoe hd (hall e he hb)⟩
  case refine_1 =>
    cases hsp : listed.getD sp false with
    | false => rfl
    | true =>
      rcases Bool.or_eq_true _ _ ▸ hl2 with e | e
      · have e : i = sp := by simpa using e
        rw [← e, getD_both hun] at hsp; cases hsp
      · have := anc_listed h.inv 30 i sp e hsp
        rw [getD_both hun] at this; cases this
  have hjn : j < n := by
    by_cases hjn : j < n
    · exact hjn
    · have hjlt : j < ops.size := (Array.getElem?_eq_some_iff.1 hj).1
      have := h.inv.tail j (by omega) hjlt
      have h2 := getD_both this
      rw [h2] at hl; cases hl
  have : (ops.toList.take n)[j]? = some oj := by rw [List.getElem?_take, if_pos hjn]; simpa using hj
  exact List.mem_of_getElem? this

theorem wpAny_of_vals3 {n g : Nat} (hV : ∀ i j v w w', i < n → j < n → i ≠ j → ancB ops 30 j i = false → V i v w → Step j w w' → V i v w') (hP0 : ∀ j w w', j < n → j ≠ sp → P0 w → Step j w w' → P0 w') (hP1 : ∀ j w w', j < n → P1 w → Step j w w' → P1 w') (hD : dstsB ops n a0.tmps.size = true)
    (hok : ∀ i o, i < n → ops[i]? = some o → OpOk3 P ops V a0 Q sp P0 P1 Step n i o)
    (hwait : ∀ listed, HeadInv .any ops n listed → ∀ i, i < n → listed.getD i true = false → (∃ j, j ∈ Region.ready .any ops listed) ∧ ∀ j ∈ Region.ready .any ops listed, j < n)
    (hfin : ∀ listed a w, Midst3 ops V sp P0 P1 n a0 listed a w → (∀ i, i < n → listed.getD i false = true) → wpAny P .any ops Q g listed a w) :
    ∀ (f : Nat) (listed : Array Bool) (a : Act) (w : World), n ≤ ops.size → todo listed n = f → Midst3 ops V sp P0 P1 n a0 listed a w → wpAny P .any ops Q (f + g) listed a w := by
  intro f
  induction f with
  | zero =>
    intro listed a w hns hf h
    rw [Nat.zero_add]
    refine hfin listed a w h fun i hi => ?_
    cases hl : listed.getD i false with
    | true => rfl
    | false =>
      exfalso
      have hm : i ∈ (List.range n).filter fun i => !listed.getD i false := List.mem_filter.2 ⟨List.mem_range.2 hi, by rw [hl]; rfl⟩
      unfold todo at hf
      rw [List.length_eq_zero_iff] at hf
      rw [hf] at hm; cases hm
  | succ f ih =>
    intro listed a w hns hf h
    rw [show f + 1 + g = (f + g) + 1 by omega]
    obtain ⟨i, hin, hun⟩ : ∃ i, i < n ∧ listed.getD i false = false := by
      unfold todo at hf
      have : ((List.range n).filter fun i => !listed.getD i false) ≠ [] := by intro e; rw [e] at hf; cases hf
      obtain ⟨i, hi⟩ := List.exists_mem_of_ne_nil _ this
      obtain ⟨h1, h2⟩ := List.mem_filter.1 hi
      exact ⟨i, List.mem_range.1 h1, by simpa using h2⟩
    have hun' : listed.getD i true = false := getD_in (by rw [h.inv.size]; omega) hun
    obtain ⟨⟨j0, hj0⟩, hall⟩ := hwait listed h.inv i hin hun'
    refine ⟨fun e => (by rw [e] at hj0; cases hj0), fun j hj => ?_⟩
    have hjn := hall j hj
    obtain ⟨hju, o, ho, _⟩ := mem_ready.1 hj
    refine wpOp_of_ok ho (hok j o hjn ho a w _ (known_of_midst3 h hjn hj ho) fun v w' hb hv => ?_)
    refine ih _ _ _ hns ?_ (midst_step3 hV hP0 hP1 hD h hj hjn ho hb hv)
    have := todo_set (listed := listed) hjn (by rw [h.inv.size]; omega) (getD_both hju)
    omega
end

theorem wp_region_steps (sp : Nat) (P0 P1 : World → Prop) (Step : Nat → World → World → Prop) {P : Program} {id : Nat} {Q : Exit → Act → World → Prop} {a0 : Act} {w : World} {l : List Oper} (n : Nat) (Vs : List (Value → World → Prop)) (hm : P.follows .mixedOrders = true)
    (hB : (Region.lexReady l.toArray n && decide (n < l.length) && Region.sinkB .any l.toArray n && Region.chainB .any l.toArray n) = true)
    (hS : Region.seqB .any l.toArray (l.length - n) n ((Array.replicate n true) ++ Array.replicate (l.length - n) false) = true)
    (hD : dstsB l.toArray n a0.tmps.size = true)
    (h0 : P0 w.drew) (h1 : P1 w.drew)
    (hP0 : ∀ j w w', j < n → j ≠ sp → P0 w → Step j w w' → P0 w') (hP1 : ∀ j w w', j < n → P1 w → Step j w w' → P1 w')
    (hV : ∀ i j v w w', i < n → j < n → i ≠ j → ancB l.toArray 30 j i = false → nthV Vs i v w → Step j w w' → nthV Vs i v w')
    (hok : ∀ i o, i < n → l[i]? = some o → OpOk3 P l.toArray (nthV Vs) a0 Q sp P0 P1 Step n i o)
    (hfin : ∀ (vs : List Value) (w' : World), vs.length = n → P1 w' → (∀ i, i < n → nthV Vs i (vs.getD i undef) w') → wpList P l.toArray Q (l.drop n) (putAll a0 (l.take n) vs) w') :
    (Code.region id l.toArray true).wp P Q a0 w := by
  simp only [Bool.and_eq_true, decide_eq_true_iff] at hB
  obtain ⟨⟨⟨hlex, hn⟩, hsink⟩, hchain⟩ := hB
  have hsz : l.toArray.size = l.length := by simp
  refine wp_region_any hm ?_
  have inv0 : HeadInv .any l.toArray n (Array.replicate l.toArray.size false) :=
    ⟨by simp, fun j oj _ hl => (by rw [getD_replicate_false] at hl; cases hl), fun t _ ht => getD_in (by simpa using ht) (getD_replicate_false _ _)⟩
  have htodo : todo (Array.replicate l.toArray.size false) n = n := by
    unfold todo
    rw [List.filter_eq_self.2 (fun i _ => by rw [getD_replicate_false]; rfl), List.length_range]
  have := wpAny_of_vals3 (P := P) (ops := l.toArray) (V := nthV Vs) (a0 := a0) (Q := Q) (n := n) (g := l.length - n) hV hP0 hP1 hD
    (fun i o hi ho => hok i o hi (by simpa using ho))
    (fun listed inv i hi hu => ⟨(ready_of_lex hlex inv.size (by omega) i hi hu).imp fun j h => h.2, fun j hj => by
      rcases Nat.lt_or_ge j n with h | h
      · exact h
      · exact absurd hj (tail_waits hsink hchain (by simpa using hn) inv _ i rfl hi hu j h)⟩)
    (fun listed a w' h hall => by
      have hlisted : listed = (Array.replicate n true) ++ Array.replicate (l.length - n) false := by
        apply Array.ext
        · rw [h.inv.size]; simp; omega
        · intro i h1 h2
          by_cases hi : i < n
          · have := hall i hi
            simp only [Array.getD_eq_getD_getElem?, Array.getElem?_eq_getElem h1, Option.getD_some] at this
            rw [this, Array.getElem_append_left (by simpa using hi)]; simp
          · have := getD_both (h.inv.tail i (by omega) (by rw [← h.inv.size]; exact h1))
            simp only [Array.getD_eq_getD_getElem?, Array.getElem?_eq_getElem h1, Option.getD_some] at this
            rw [this, Array.getElem_append_right (by simpa using hi)]; simp
      subst hlisted
      have hdl : (l.drop n).length = l.length - n := by simp
      have htake : (l.take n).length = n := by simp; omega
      obtain ⟨hD1, hD2⟩ : (∀ o ∈ l.take n, ∃ d, o.dst = some d ∧ d < a0.tmps.size) ∧ ((l.take n).map (·.dst)).Nodup := by
        simp only [dstsB, Bool.and_eq_true, List.all_eq_true, decide_eq_true_iff] at hD
        refine ⟨fun o ho => ?_, by simpa using hD.2⟩
        have := hD.1 o (by simpa using ho)
        cases hod : o.dst with
        | none => rw [hod] at this; cases this
        | some d => rw [hod] at this; exact ⟨d, rfl, by simpa using this⟩
      have ha : a = putAll a0 (l.take n) ((l.take n).map fun o => match o.dst with | some d => a.tmps.getD d undef | none => undef) := by
        refine act_ext ?_ ?_ ?_
        · rw [(putAll_get _ _ a0 0 (by simp) hD1 hD2).1, h.size]
        · rw [(putAll_get _ _ a0 0 (by simp) hD1 hD2).2.1, h.defers]
        · intro t
          obtain ⟨_, _, h3, h4⟩ := putAll_get (l.take n) ((l.take n).map fun o => match o.dst with | some d => a.tmps.getD d undef | none => undef) a0 t (by simp) hD1 hD2
          by_cases hex : ∃ i, ∃ hi : i < (l.take n).length, (l.take n)[i].dst = some t
          · obtain ⟨i, hi, ht⟩ := hex
            exact (h3 i hi (a.tmps.getD t undef) (by rw [List.getElem?_map, List.getElem?_eq_getElem hi, Option.map_some, ht]) ht).symm
          · rw [h4 fun o ho e => by
              obtain ⟨i, hi, rfl⟩ := List.getElem_of_mem ho
              exact hex ⟨i, hi, e⟩]
            refine h.rest t fun i o ho hl e => ?_
            have hin : i < n := by
              rcases Nat.lt_or_ge i n with h' | h'
              · exact h'
              · have hlt : i < l.toArray.size := (Array.getElem?_eq_some_iff.1 ho).1
                have := getD_both (h.inv.tail i h' hlt)
                rw [this] at hl; cases hl
            have ho' : l[i]? = some o := by simpa using ho
            have hlt : i < l.length := (List.getElem?_eq_some_iff.1 ho').1
            refine hex ⟨i, by simp; omega, ?_⟩
            rw [List.getElem_take]
            have : l[i] = o := by rw [List.getElem?_eq_getElem hlt] at ho'; exact Option.some.inj ho'
            rw [this]; exact e
      have hw := hfin ((l.take n).map fun o => match o.dst with | some d => a.tmps.getD d undef | none => undef) w' (by simp; omega) h.p1 (fun i hi => by
        have hlt : i < l.length := by omega
        have hmem : l[i] ∈ l.take n := List.mem_of_getElem? (i := i) (by rw [List.getElem?_take, if_pos hi, List.getElem?_eq_getElem hlt])
        obtain ⟨d, hd, _⟩ := hD1 _ hmem
        have e : (((l.take n).map fun o => match o.dst with | some d => a.tmps.getD d undef | none => undef).getD i undef) = a.tmps.getD d undef := by
          rw [List.getD_eq_getElem?_getD, List.getElem?_map, List.getElem?_take, if_pos hi, List.getElem?_eq_getElem hlt]
          simp [hd]
        rw [e]
        exact h.done i l[i] d (by simp [hlt]) hd (hall i hi))
      rw [← ha] at hw
      have := wpAny_of_seq (md := .any) (Q' := Q) (l.drop n) n _ a w' (fun j => by simp [List.getElem?_drop]) (by rw [hdl]; exact hS) hw
      rwa [hdl] at this)
    n (Array.replicate l.toArray.size false) a0 { w with drawn := w.drawn + 1 } (by simpa using Nat.le_of_lt hn) htodo
    ⟨inv0, fun _ => h0, h1, rfl, rfl, fun i o d _ _ hl => (by rw [getD_replicate_false] at hl; cases hl), fun t _ => rfl⟩
  rw [hsz]
  rw [hsz] at this
  rwa [show n + (l.length - n) = l.length by omega] at this
end Go
/-! Region4 -/
namespace Go
open Go.RowKit
set_option linter.unusedVariables false

/-- which operations are done -/
def doneB (listed : Array Bool) (j : Nat) : Bool := listed.getD j false

section
variable {P : Program} {ops : Array Oper} {V : Nat → (Nat → Bool) → Value → World → Prop} {a0 : Act} {W : World} {Q : Exit → Act → World → Prop} {sp : Nat} {P0 P1 : World → Prop} {Step : Nat → World → World → Prop}

/-- What is known when an operation comes up. -/
structure Known4 (ops : Array Oper) (V : Nat → (Nat → Bool) → Value → World → Prop) (a0 : Act) (sp : Nat) (P0 P1 : World → Prop) (n i : Nat) (o : Oper) (a : Act) (w : World) (d : Nat → Bool) : Prop where
  not : d i = false
  p0 : (i == sp || ancB ops 30 i sp) = true → P0 w
  p1 : P1 w
  same : ∀ t, (∀ oi ∈ ops.toList.take n, oi.dst ≠ some t) → a.tmps.getD t undef = a0.tmps.getD t undef
  deps : ∀ e ∈ o.after, Region.binds .any e = true → ∀ oe t, ops[e.on]? = some oe → oe.dst = some t → V e.on d (a.tmps.getD t undef) w

/-- Operation i, whenever it comes up, yields a value of V i, which lasts. -/
def OpOk4 (P : Program) (ops : Array Oper) (V : Nat → (Nat → Bool) → Value → World → Prop) (a0 : Act) (Q : Exit → Act → World → Prop) (sp : Nat) (P0 P1 : World → Prop) (Step : Nat → World → World → Prop) (n : Nat) (i : Nat) (o : Oper) : Prop :=
  ∀ (a : Act) (w : World) (K : Act → World → Prop) (d : Nat → Bool), Known4 ops V a0 sp P0 P1 n i o a w d → (∀ v w', Step i w w' → (∀ d', (∀ k, k ≠ i → d' k = d k) → d' i = true → V i d' v w') → K (a.put o.dst v) w') →
    if Region.wanted o (yielded ops a.tmps) then o.wp P a w K Q else K (a.put o.dst undef) w

/-- The state: some heads are done. -/
structure Midst4 (ops : Array Oper) (V : Nat → (Nat → Bool) → Value → World → Prop) (sp : Nat) (P0 P1 : World → Prop) (n : Nat) (a0 : Act) (listed : Array Bool) (a : Act) (w : World) : Prop where
  inv : HeadInv .any ops n listed
  p0 : listed.getD sp false = false → P0 w
  p1 : P1 w
  size : a.tmps.size = a0.tmps.size
  defers : a.defers = a0.defers
  done : ∀ i o d, ops[i]? = some o → o.dst = some d → listed.getD i false = true → V i (doneB listed) (a.tmps.getD d undef) w
  rest : ∀ t, (∀ i o, ops[i]? = some o → listed.getD i false = true → o.dst ≠ some t) → a.tmps.getD t undef = a0.tmps.getD t undef

theorem midst_step4 {n : Nat} (hV : ∀ i j v w w' (d d' : Nat → Bool), i < n → j < n → i ≠ j → ancB ops 30 j i = false → (∀ k, k ≠ j → d' k = d k) → d' j = true → V i d v w → Step j w w' → V i d' v w') (hP0 : ∀ j w w', j < n → j ≠ sp → P0 w → Step j w w' → P0 w') (hP1 : ∀ j w w', j < n → P1 w → Step j w w' → P1 w') {listed : Array Bool} {a : Act} {w : World} (hD : dstsB ops n a0.tmps.size = true)
    (h : Midst4 ops V sp P0 P1 n a0 listed a w) {i : Nat} {o : Oper} (hi : i ∈ Region.ready .any ops listed) (hin : i < n) (ho : ops[i]? = some o) {v : Value} {w' : World}
    (hb : Step i w w') (hv : ∀ d', (∀ k, k ≠ i → d' k = doneB listed k) → d' i = true → V i d' v w') : Midst4 ops V sp P0 P1 n a0 (listed.setIfInBounds i true) (a.put o.dst v) w' := by
  simp only [dstsB, Bool.and_eq_true, List.all_eq_true, decide_eq_true_iff] at hD
  have hlt : i < ops.size := (Array.getElem?_eq_some_iff.1 ho).1
  have hmem : o ∈ ops.toList.take n := by
    have : (ops.toList.take n)[i]? = some o := by rw [List.getElem?_take, if_pos hin]; simpa using ho
    exact List.mem_of_getElem? this
  have hd1 := hD.1 o hmem
  cases hod : o.dst with
  | none => rw [hod] at hd1; cases hd1
  | some d =>
    rw [hod] at hd1
    have hds : d < a.tmps.size := by rw [h.size]; simpa using hd1
    have hls : i < listed.size := by rw [h.inv.size]; exact hlt
    have huniq : ∀ j oj, ops[j]? = some oj → j < n → oj.dst = some d → j = i := by
      intro j oj hj hjn hjd
      have hnd := hD.2
      have e1 : ((ops.toList.take n).map (·.dst))[j]? = some (some d) := by
        rw [List.getElem?_map, List.getElem?_take, if_pos hjn]
        have : ops.toList[j]? = some oj := by simpa using hj
        rw [this]; simp [hjd]
      have e2 : ((ops.toList.take n).map (·.dst))[i]? = some (some d) := by
        rw [List.getElem?_map, List.getElem?_take, if_pos hin]
        have : ops.toList[i]? = some o := by simpa using ho
        rw [this]; simp [hod]
      exact (List.getElem?_inj (by
        have := List.getElem?_eq_some_iff.1 e1; exact this.1) hnd).1 (e1.trans e2.symm)
    have hun : listed.getD i false = false := getD_both (mem_ready.1 hi).1
    have hd1' : ∀ k, k ≠ i → doneB (listed.setIfInBounds i true) k = doneB listed k := fun k hk => by unfold doneB; rw [getD_set_false hls, if_neg hk]
    have hd2' : doneB (listed.setIfInBounds i true) i = true := by unfold doneB; rw [getD_set_false hls, if_pos rfl]
    refine ⟨h.inv.set hi hin, fun hsp => ?_, hP1 i _ _ hin h.p1 hb, by simp [Act.put, h.size], h.defers, ?_, ?_⟩
    · rw [getD_set_false hls] at hsp
      by_cases e : sp = i
      · rw [if_pos e] at hsp; cases hsp
      · rw [if_neg e] at hsp
        exact hP0 i _ _ hin (fun h => e h.symm) (h.p0 hsp) hb
    · intro j oj dj hj hjd hl
      rw [put_getD _ _ _ _ hds]
      rw [getD_set_false hls] at hl
      have hjn : j < n := by
        by_cases hjn : j < n
        · exact hjn
        · have hjlt : j < ops.size := (Array.getElem?_eq_some_iff.1 hj).1
          have := h.inv.tail j (by omega) hjlt
          have h2 := getD_both this
          rw [if_neg (by omega)] at hl
          rw [h2] at hl; cases hl
      by_cases hji : j = i
      · subst hji
        obtain rfl : oj = o := Option.some.inj (hj.symm.trans ho)
        obtain rfl : dj = d := Option.some.inj (hjd.symm.trans hod)
        rw [if_pos rfl]; exact hv _ hd1' hd2'
      · have hne : dj ≠ d := fun e => hji (huniq j oj hj hjn (e ▸ hjd))
        rw [if_neg hne]
        rw [if_neg hji] at hl
        have hd := h.done j oj dj hj hjd hl
        refine hV j i _ _ _ _ _ hjn hin hji ?_ hd1' hd2' hd hb
        cases han : ancB ops 30 i j with
        | false => rfl
        | true =>
          have := anc_listed h.inv 30 i j han hl
          rw [this] at hun; cases hun
    · intro t ht
      have hne : t ≠ d := fun e => ht i o ho (by rw [getD_set_false hls, if_pos rfl]) (e ▸ hod)
      rw [put_getD _ _ _ _ hds, if_neg hne]
      refine h.rest t fun j oj hj hl => ht j oj hj ?_
      rw [getD_set_false hls]
      split
      · rfl
      · exact hl

theorem known_of_midst4 {n : Nat} {listed : Array Bool} {a : Act} {w : World} (h : Midst4 ops V sp P0 P1 n a0 listed a w) {i : Nat} {o : Oper} (hin : i < n) (hi : i ∈ Region.ready .any ops listed) (ho : ops[i]? = some o) :
    Known4 ops V a0 sp P0 P1 n i o a w (doneB listed) := by
  obtain ⟨hun, o', ho', hall⟩ := mem_ready.1 hi
  obtain rfl : o' = o := Option.some.inj (ho'.symm.trans ho)
  refine ⟨getD_both hun, fun hl2 => h.p0 ?_, h.p1, fun t ht => h.rest t fun j oj hj hl => ht oj ?_, fun e he hb oe d hoe hd => h.done _ _ _ hoe hd (hall e he hb)⟩
  case refine_1 =>
    cases hsp : listed.getD sp false with
    | false => rfl
    | true =>
      rcases Bool.or_eq_true _ _ ▸ hl2 with e | e
      · have e : i = sp := by simpa using e
        rw [← e, getD_both hun] at hsp; cases hsp
      · have := anc_listed h.inv 30 i sp e hsp
        rw [getD_both hun] at this; cases this
  have hjn : j < n := by
    by_cases hjn : j < n
    · exact hjn
    · have hjlt : j < ops.size := (Array.getElem?_eq_some_iff.1 hj).1
      have := h.inv.tail j (by omega) hjlt
      have h2 := getD_both this
      rw [h2] at hl; cases hl
  have : (ops.toList.take n)[j]? = some oj := by rw [List.getElem?_take, if_pos hjn]; simpa using hj
  exact List.mem_of_getElem? this

theorem wpAny_of_vals4 {n g : Nat} (hV : ∀ i j v w w' (d d' : Nat → Bool), i < n → j < n → i ≠ j → ancB ops 30 j i = false → (∀ k, k ≠ j → d' k = d k) → d' j = true → V i d v w → Step j w w' → V i d' v w') (hP0 : ∀ j w w', j < n → j ≠ sp → P0 w → Step j w w' → P0 w') (hP1 : ∀ j w w', j < n → P1 w → Step j w w' → P1 w') (hD : dstsB ops n a0.tmps.size = true)
    (hok : ∀ i o, i < n → ops[i]? = some o → OpOk4 P ops V a0 Q sp P0 P1 Step n i o)
    (hwait : ∀ listed, HeadInv .any ops n listed → ∀ i, i < n → listed.getD i true = false → (∃ j, j ∈ Region.ready .any ops listed) ∧ ∀ j ∈ Region.ready .any ops listed, j < n)
    (hfin : ∀ listed a w, Midst4 ops V sp P0 P1 n a0 listed a w → (∀ i, i < n → listed.getD i false = true) → wpAny P .any ops Q g listed a w) :
    ∀ (f : Nat) (listed : Array Bool) (a : Act) (w : World), n ≤ ops.size → todo listed n = f → Midst4 ops V sp P0 P1 n a0 listed a w → wpAny P .any ops Q (f + g) listed a w := by
  intro f
  induction f with
  | zero =>
    intro listed a w hns hf h
    rw [Nat.zero_add]
    refine hfin listed a w h fun i hi => ?_
    cases hl : listed.getD i false with
    | true => rfl
    | false =>
      exfalso
      have hm : i ∈ (List.range n).filter fun i => !listed.getD i false := List.mem_filter.2 ⟨List.mem_range.2 hi, by rw [hl]; rfl⟩
      unfold todo at hf
      rw [List.length_eq_zero_iff] at hf
      rw [hf] at hm; cases hm
  | succ f ih =>
    intro listed a w hns hf h
    rw [show f + 1 + g = (f + g) + 1 by omega]
    obtain ⟨i, hin, hun⟩ : ∃ i, i < n ∧ listed.getD i false = false := by
      unfold todo at hf
      have : ((List.range n).filter fun i => !listed.getD i false) ≠ [] := by intro e; rw [e] at hf; cases hf
      obtain ⟨i, hi⟩ := List.exists_mem_of_ne_nil _ this
      obtain ⟨h1, h2⟩ := List.mem_filter.1 hi
      exact ⟨i, List.mem_range.1 h1, by simpa using h2⟩
    have hun' : listed.getD i true = false := getD_in (by rw [h.inv.size]; omega) hun
    obtain ⟨⟨j0, hj0⟩, hall⟩ := hwait listed h.inv i hin hun'
    refine ⟨fun e => (by rw [e] at hj0; cases hj0), fun j hj => ?_⟩
    have hjn := hall j hj
    obtain ⟨hju, o, ho, _⟩ := mem_ready.1 hj
    refine wpOp_of_ok ho (hok j o hjn ho a w _ _ (known_of_midst4 h hjn hj ho) fun v w' hb hv => ?_)
    refine ih _ _ _ hns ?_ (midst_step4 hV hP0 hP1 hD h hj hjn ho hb hv)
    have := todo_set (listed := listed) hjn (by rw [h.inv.size]; omega) (getD_both hju)
    omega
end

def nthF (Vs : List ((Nat → Bool) → Value → World → Prop)) (i : Nat) : (Nat → Bool) → Value → World → Prop := (Vs[i]?).getD fun _ _ _ => True
theorem wp_region_flags (sp : Nat) (P0 P1 : World → Prop) (Step : Nat → World → World → Prop) {P : Program} {id : Nat} {Q : Exit → Act → World → Prop} {a0 : Act} {w : World} {l : List Oper} (n : Nat) (Vs : List ((Nat → Bool) → Value → World → Prop)) (hm : P.follows .mixedOrders = true)
    (hB : (Region.lexReady l.toArray n && decide (n < l.length) && Region.sinkB .any l.toArray n && Region.chainB .any l.toArray n) = true)
    (hS : Region.seqB .any l.toArray (l.length - n) n ((Array.replicate n true) ++ Array.replicate (l.length - n) false) = true)
    (hD : dstsB l.toArray n a0.tmps.size = true)
    (h0 : P0 w.drew) (h1 : P1 w.drew)
    (hP0 : ∀ j w w', j < n → j ≠ sp → P0 w → Step j w w' → P0 w') (hP1 : ∀ j w w', j < n → P1 w → Step j w w' → P1 w')
    (hV : ∀ i j v w w' (d d' : Nat → Bool), i < n → j < n → i ≠ j → ancB l.toArray 30 j i = false → (∀ k, k ≠ j → d' k = d k) → d' j = true → nthF Vs i d v w → Step j w w' → nthF Vs i d' v w')
    (hok : ∀ i o, i < n → l[i]? = some o → OpOk4 P l.toArray (nthF Vs) a0 Q sp P0 P1 Step n i o)
    (hfin : ∀ (vs : List Value) (w' : World), vs.length = n → P1 w' → (∀ i, i < n → nthF Vs i (fun j => decide (j < n)) (vs.getD i undef) w') → wpList P l.toArray Q (l.drop n) (putAll a0 (l.take n) vs) w') :
    (Code.region id l.toArray true).wp P Q a0 w := by
  simp only [Bool.and_eq_true, decide_eq_true_iff] at hB
  obtain ⟨⟨⟨hlex, hn⟩, hsink⟩, hchain⟩ := hB
  have hsz : l.toArray.size = l.length := by simp
  refine wp_region_any hm ?_
  have inv0 : HeadInv .any l.toArray n (Array.replicate l.toArray.size false) :=
    ⟨by simp, fun j oj _ hl => (by rw [getD_replicate_false] at hl; cases hl), fun t _ ht => getD_in (by simpa using ht) (getD_replicate_false _ _)⟩
  have htodo : todo (Array.replicate l.toArray.size false) n = n := by
    unfold todo
    rw [List.filter_eq_self.2 (fun i _ => by rw [getD_replicate_false]; rfl), List.length_range]
  have := wpAny_of_vals4 (P := P) (ops := l.toArray) (V := nthF Vs) (a0 := a0) (Q := Q) (n := n) (g := l.length - n) hV hP0 hP1 hD
    (fun i o hi ho => hok i o hi (by simpa using ho))
    (fun listed inv i hi hu => ⟨(ready_of_lex hlex inv.size (by omega) i hi hu).imp fun j h => h.2, fun j hj => by
      rcases Nat.lt_or_ge j n with h | h
      · exact h
      · exact absurd hj (tail_waits hsink hchain (by simpa using hn) inv _ i rfl hi hu j h)⟩)
    (fun listed a w' h hall => by
      have hlisted : listed = (Array.replicate n true) ++ Array.replicate (l.length - n) false := by
        apply Array.ext
        · rw [h.inv.size]; simp; omega
        · intro i h1 h2
          by_cases hi : i < n
          · have := hall i hi
            simp only [Array.getD_eq_getD_getElem?, Array.getElem?_eq_getElem h1, Option.getD_some] at this
            rw [this, Array.getElem_append_left (by simpa using hi)]; simp
          · have := getD_both (h.inv.tail i (by omega) (by rw [← h.inv.size]; exact h1))
            simp only [Array.getD_eq_getD_getElem?, Array.getElem?_eq_getElem h1, Option.getD_some] at this
            rw [this, Array.getElem_append_right (by simpa using hi)]; simp
      subst hlisted
      have hdl : (l.drop n).length = l.length - n := by simp
      have htake : (l.take n).length = n := by simp; omega
      obtain ⟨hD1, hD2⟩ : (∀ o ∈ l.take n, ∃ d, o.dst = some d ∧ d < a0.tmps.size) ∧ ((l.take n).map (·.dst)).Nodup := by
        simp only [dstsB, Bool.and_eq_true, List.all_eq_true, decide_eq_true_iff] at hD
        refine ⟨fun o ho => ?_, by simpa using hD.2⟩
        have := hD.1 o (by simpa using ho)
        cases hod : o.dst with
        | none => rw [hod] at this; cases this
        | some d => rw [hod] at this; exact ⟨d, rfl, by simpa using this⟩
      have ha : a = putAll a0 (l.take n) ((l.take n).map fun o => match o.dst with | some d => a.tmps.getD d undef | none => undef) := by
        refine act_ext ?_ ?_ ?_
        · rw [(putAll_get _ _ a0 0 (by simp) hD1 hD2).1, h.size]
        · rw [(putAll_get _ _ a0 0 (by simp) hD1 hD2).2.1, h.defers]
        · intro t
          obtain ⟨_, _, h3, h4⟩ := putAll_get (l.take n) ((l.take n).map fun o => match o.dst with | some d => a.tmps.getD d undef | none => undef) a0 t (by simp) hD1 hD2
          by_cases hex : ∃ i, ∃ hi : i < (l.take n).length, (l.take n)[i].dst = some t
          · obtain ⟨i, hi, ht⟩ := hex
            exact (h3 i hi (a.tmps.getD t undef) (by rw [List.getElem?_map, List.getElem?_eq_getElem hi, Option.map_some, ht]) ht).symm
          · rw [h4 fun o ho e => by
              obtain ⟨i, hi, rfl⟩ := List.getElem_of_mem ho
              exact hex ⟨i, hi, e⟩]
            refine h.rest t fun i o ho hl e => ?_
            have hin : i < n := by
              rcases Nat.lt_or_ge i n with h' | h'
              · exact h'
              · have hlt : i < l.toArray.size := (Array.getElem?_eq_some_iff.1 ho).1
                have := getD_both (h.inv.tail i h' hlt)
                rw [this] at hl; cases hl
            have ho' : l[i]? = some o := by simpa using ho
            have hlt : i < l.length := (List.getElem?_eq_some_iff.1 ho').1
            refine hex ⟨i, by simp; omega, ?_⟩
            rw [List.getElem_take]
            have : l[i] = o := by rw [List.getElem?_eq_getElem hlt] at ho'; exact Option.some.inj ho'
            rw [this]; exact e
      have hw := hfin ((l.take n).map fun o => match o.dst with | some d => a.tmps.getD d undef | none => undef) w' (by simp; omega) h.p1 (fun i hi => by
        have hlt : i < l.length := by omega
        have hmem : l[i] ∈ l.take n := List.mem_of_getElem? (i := i) (by rw [List.getElem?_take, if_pos hi, List.getElem?_eq_getElem hlt])
        obtain ⟨d, hd, _⟩ := hD1 _ hmem
        have e : (((l.take n).map fun o => match o.dst with | some d => a.tmps.getD d undef | none => undef).getD i undef) = a.tmps.getD d undef := by
          rw [List.getD_eq_getElem?_getD, List.getElem?_map, List.getElem?_take, if_pos hi, List.getElem?_eq_getElem hlt]
          simp [hd]
        rw [e]
        have hdd := h.done i l[i] d (by simp [hlt]) hd (hall i hi)
        rw [show doneB ((Array.replicate n true) ++ Array.replicate (l.length - n) false) = fun j => decide (j < n) from by
          funext j
          unfold doneB
          rw [Array.getD_eq_getD_getElem?]
          by_cases hj : j < n
          · rw [Array.getElem?_append_left (by simpa using hj), Array.getElem?_replicate, if_pos hj]; simp [hj]
          · rw [Array.getElem?_append_right (by simpa using hj), Array.getElem?_replicate]; split <;> simp [hj]] at hdd
        exact hdd)
      rw [← ha] at hw
      have := wpAny_of_seq (md := .any) (Q' := Q) (l.drop n) n _ a w' (fun j => by simp [List.getElem?_drop]) (by rw [hdl]; exact hS) hw
      rwa [hdl] at this)
    n (Array.replicate l.toArray.size false) a0 { w with drawn := w.drawn + 1 } (by simpa using Nat.le_of_lt hn) htodo
    ⟨inv0, fun _ => h0, h1, rfl, rfl, fun i o d _ _ hl => (by rw [getD_replicate_false] at hl; cases hl), fun t _ => rfl⟩
  rw [hsz]
  rw [hsz] at this
  rwa [show n + (l.length - n) = l.length by omega] at this
end Go
/-! SlG -/
namespace Go.Proofs.YtdkomhmciihkiaaGreat
open Go.RowKit
set_option linter.unusedVariables false
set_option linter.unusedSimpArgs false

theorem del1_any (x a : Int) (q : Option Addr) (h : Bool) (B : Nat) (w : World) (hB : w.cell? ⟨B, 0, none⟩ = some (.int .i64 a)) : Calls Tryz.prog 254 #[.agg #[.int .i64 x, .pointer q, .bool h], .pointer (some ⟨B, 0, none⟩)] w fun e w' => e = .returned (.bool (x == a)) ∧ Below w.heap.size w w' := by
  have hb := World.block_lt_of_cell? w _ hB
  go_enter Tryz.func254, Tryz.ntmps254
  go_wp2_with fail
  go_ret
  exact ⟨rfl, (by repeat (first | exact Below.refl _ _ | (refine Below.drew ?_) | (refine below_drewN' ?_ _) | (refine below_alloc' ?_ _) | (refine Below.setCell ?_ (by first | exact Nat.le_refl _ | (simp; done) | (simp; omega)) _)))⟩

set_option maxRecDepth 100000 in
set_option maxHeartbeats 2000000 in
theorem idx_any (l : List (Nat × Nat)) (i0 a B : Nat) (v : Value) (w : World) (hr : RdK w v (l.map takenC)) (hasc : Od.Asc ka l) (hlen : l.length ≤ 65536) (hi : i0 < l.length) (ha : l[i0].1 = a) (hB : w.cell? ⟨B, 0, none⟩ = some (.int .i64 (a : Nat))) :
    Calls Tryz.prog 259 #[v, .func (.func 254) #[] #[.pointer (some ⟨B, 0, none⟩)]] w fun e w' => e = .returned (.int .i64 (i0 : Nat)) ∧ Below w.heap.size w w' := by
  obtain ⟨A, c, rfl, hl, hx⟩ := hr
  rw [List.length_map] at *
  have HX := Lib.hid hx
  have HD := Lib.hid (And.intro hasc (And.intro hlen (And.intro hi ha)))
  have HB := Lib.hid hB
  clear hl hx hasc hlen ha
  go_enter Tryz.func259, Tryz.ntmps259
  go_wp2_with fail
  go_loopw [8] (fun s wr => ∃ j : Nat, j ≤ i0 ∧ s = .int .i64 j ∧ Below w.heap.size w wr) (fun s _ => l.length - (intOf s).toNat)
  case atStart => exact ⟨0, Nat.zero_le _, rfl, Below.refl _ _⟩
  case round =>
    obtain ⟨j, hj, rfl, hb⟩ := hrel
    have HBW := Lib.hid hb
    have hjl : j < l.length := by omega
    have h3 : (j : Int) < (l.length : Int) := by omega
    have h5 : (0 : Int) ≤ (j : Int) := by omega
    have HW := Lib.hid (show wrap64 ((j : Int) + 1) = ((j + 1 : Nat) : Int) by have := HD.out.2.1; unfold wrap64; omega)
    obtain ⟨b2, o2, rfl, hc⟩ := HX.out (by rw [List.length_map]; omega)
    obtain ⟨k0, k1, k2⟩ := hc j (by rw [List.length_map]; exact hjl)
    simp only [List.getElem_map, takenC, pv, Option.map_some] at k0 k1 k2
    replace k0 := Below.keeps hb _ _ k0
    replace k1 := Below.keeps hb _ _ k1
    replace k2 := Below.keeps hb _ _ k2
    have hlb := World.block_lt_of_cell? wr _ k0
    have HP := Lib.hid (fun w' h => del1_any (l[j].1 : Nat) a (some ⟨l[j].2, 0, none⟩) true B w' h)
    have hBr := Below.keeps hb _ _ HB.out
    by_cases he : j = i0
    · subst he
      have e1 : (((l[j].1 : Nat) : Int) == ((a : Nat) : Int)) = true := by rw [HD.out.2.2.2]; simp
      rw [e1] at HP
      clear hc hb e1
      go_wp2_with fail
      refine (HP.out _ hBr).mono ?_
      rintro e w2 ⟨rfl, hb2⟩
      have HB2 := Lib.hid (below_trans HBW.out hb2)
      clear hb2
      go_wp2_with fail
      go_ret
      exact ⟨rfl, HB2.out⟩
    · have e1 : (((l[j].1 : Nat) : Int) == ((a : Nat) : Int)) = false := by
        have h1 := List.pairwise_iff_getElem.1 HD.out.1 j i0 hjl hi (by omega)
        have h2 : l[j].1 < l[i0].1 := h1
        have h4 := HD.out.2.2.2
        simp
        omega
      rw [e1] at HP
      clear hc hb e1
      go_wp2_with fail
      refine (HP.out _ hBr).mono ?_
      rintro e w2 ⟨rfl, hb2⟩
      have HB2 := Lib.hid (below_trans HBW.out hb2)
      clear hb2
      go_wp2_with fail
      go_roundw
      case rel => exact ⟨j + 1, by omega, (by first | rw [HW.out] | rfl | simp), HB2.out⟩
      case measure => (first | (rw [intOf_of' HW.out, intOf_of' rfl]; omega) | (simp [intOf]; omega) | (simp [intOf] <;> omega))

theorem wpList_clear_run {P : Program} {w w' : World} {v v' : Value} {ops : Array Oper} {rest : List Oper} {o : Oper} {a : Act} {Q : Exit → Act → World → Prop} {s : Operand} {t : TypeId} (hgd : o.guard = none)
    (ho : o.op = .call { callee := .builtin .clear, args := #[s], argTypes := #[t] }) (hs : a.eval s = v) (hrun : (Builtin.clear_ #[t] o.type #[v]).run P w = .ok v' w') (h : wpList P ops Q rest (a.put o.dst v') w') : wpList P ops Q (o :: rest) a w := by
  refine wpList_plain hgd fun K hK => ?_
  unfold Oper.wp execOp
  simp only [ho, resolve, invoke, builtin, Sem.run_bind, Sem.run_pure, Result.andThen_ok, List.map_toArray, List.map_cons, List.map_nil, hs, hrun]
  exact hK _ _ h
def z3 : List Value := [.int .i64 0, .pointer none, .bool false]
/-- the last cell of a row is cleared -/
theorem run_clear3 {w : World} {g n : Nat} {A B C : List Value} (hk : KL w g n (A ++ B ++ C)) (hB : B.length = 3) (o : Nat) (ho : o = A.length) (c : Nat) (ty : TypeId) :
    (Builtin.clear_ #[317] ty #[.slice (some ⟨g, o, none⟩) 1 c]).run Tryz.prog w = .ok (.tuple #[]) (w.setRow g (A ++ z3 ++ C).toArray) := by
  subst ho
  have hst := run_storeCells_at Tryz.prog g A.length 324 z3 0 _ w hk.1 (by simp [z3]; omega) (by intro v hv; simp [z3] at hv; rcases hv with rfl | rfl | rfl <;> rfl)
  have e1 : ((A ++ B ++ C).toArray.toList.take (A.length + 0) ++ z3 ++ (A ++ B ++ C).toArray.toList.drop (A.length + 0 + z3.length)).toArray = (A ++ z3 ++ C).toArray := by
    congr 1
    rw [Nat.add_zero, List.append_assoc A B C, List.take_left, ← List.append_assoc A B C, show z3.length = B.length from hB.symm, List.drop_append_of_le_length (by simp), ← List.length_append, List.drop_length, List.nil_append]
  rw [e1] at hst
  have hz : (Builtin.zeroCells (Value.agg #[.int .i64 0, .pointer none, .bool false]).cells 1).toList = z3 := by
    rw [show (Value.agg #[.int .i64 0, .pointer none, .bool false]).cells = #[.int .i64 0, .pointer none, .bool false] by simp [Value.cells]]
    apply List.ext_getElem (by simp [Builtin.zeroCells, z3])
    intro i h1 h2
    have h3 : i = 0 ∨ i = 1 ∨ i = 2 := by simp [z3] at h2; omega
    rcases h3 with rfl | rfl | rfl <;> simp [Builtin.zeroCells, z3]
  obtain ⟨i, hi, hz0, hz1, hz2⟩ := info_parts cellInfo
  simp [Builtin.clear_, run_underlying Tryz.underlying317, zeroValue, typeInfo, hi, hz0, hz, hst]

theorem OwnK.base {W W' w : World} {v : Value} {l : List Cl} (h : OwnK W' w v l) (hs : W.heap.size ≤ W'.heap.size) : OwnK W w v l := by
  obtain ⟨h1, h2⟩ := h
  refine ⟨h1, ?_⟩
  rcases h2 with h2 | ⟨g, cap, cur, q1, q2, q3⟩
  · exact .inl h2
  · exact .inr ⟨g, cap, cur, q1, Nat.le_trans hs q2, q3⟩
theorem del_split {l : List (Nat × Nat)} {a i0 : Nat} (h : Od.Asc ka l) (hi : i0 < l.length) (ha : l[i0].1 = a) : Od.del ka a l = l.take i0 ++ l.drop (i0 + 1) := by
  have e : Od.place ka a l = (i0, true) := by
    rw [Od.place_at (key := ka) i0 hi (fun j hj hlt => by have := List.pairwise_iff_getElem.1 h j i0 hj hi hlt; rw [← ha]; exact this) (by show ¬ l[i0].1 < a; omega)]
    simp [ka, ha]
  rw [Od.del_place h, e, if_pos rfl]
/-- the row while it is gone through -/
def mrow (l : List (Nat × Nat)) (i0 j : Nat) : List (Nat × Nat) := (l.take i0 ++ l.drop (i0 + 1)).take (j - 1) ++ l.drop (j - 1)
theorem mrow_len {l : List (Nat × Nat)} {i0 j : Nat} (hi : i0 < l.length) (h1 : i0 + 1 ≤ j) (h2 : j ≤ l.length) : (mrow l i0 j).length = l.length := by
  unfold mrow; simp only [List.length_append, List.length_take, List.length_drop]; omega
theorem mrow_get {l : List (Nat × Nat)} {i0 j : Nat} (hi : i0 < l.length) (h1 : i0 + 1 ≤ j) (h2 : j < l.length) : (mrow l i0 j)[j]? = some l[j] := by
  unfold mrow
  rw [List.getElem?_append_right (by simp only [List.length_take, List.length_append, List.length_drop]; omega), List.getElem?_drop]
  simp only [List.length_take, List.length_append, List.length_drop]
  rw [show j - 1 + (j - min (j - 1) (min i0 l.length + (l.length - (i0 + 1)))) = j by omega, List.getElem?_eq_getElem h2]
theorem mrow_first {l : List (Nat × Nat)} {i0 : Nat} (hi : i0 < l.length) : mrow l i0 (i0 + 1) = l := by
  unfold mrow
  rw [Nat.add_sub_cancel, List.take_append_of_le_length (by rw [List.length_take]; omega), List.take_take, Nat.min_self, List.take_append_drop]
theorem mrow_set {l : List (Nat × Nat)} {i0 j : Nat} (hi : i0 < l.length) (h1 : i0 + 1 ≤ j) (h2 : j < l.length) : (mrow l i0 j).set (j - 1) l[j] = mrow l i0 (j + 1) := by
  apply List.ext_getElem?
  intro t
  have hl1 := mrow_len hi h1 (Nat.le_of_lt h2)
  rw [List.getElem?_set, hl1]
  unfold mrow
  simp only [Nat.add_sub_cancel]
  by_cases e : j - 1 = t
  · subst e
    rw [if_pos rfl, if_pos (by omega), List.getElem?_append_left (by simp only [List.length_take, List.length_append, List.length_drop]; omega), List.getElem?_take_of_lt (by omega), List.getElem?_append_right (by rw [List.length_take]; omega), List.getElem?_drop, List.length_take]
    rw [show i0 + 1 + (j - 1 - min i0 l.length) = j by omega, List.getElem?_eq_getElem h2]
  · rw [if_neg e]
    by_cases h3 : t < j - 1
    · rw [List.getElem?_append_left (by simp only [List.length_take, List.length_append, List.length_drop]; omega), List.getElem?_append_left (by simp only [List.length_take, List.length_append, List.length_drop]; omega), List.getElem?_take_of_lt h3, List.getElem?_take_of_lt (by omega)]
    · rw [List.getElem?_append_right (by simp only [List.length_take, List.length_append, List.length_drop]; omega), List.getElem?_append_right (by simp only [List.length_take, List.length_append, List.length_drop]; omega), List.getElem?_drop, List.getElem?_drop]
      simp only [List.length_take, List.length_append, List.length_drop]
      congr 1; omega
theorem mrow_last {l : List (Nat × Nat)} {i0 m : Nat} (hi : i0 < l.length) (hm : l.length = m + 1) : mrow l i0 (m + 1) = (l.take i0 ++ l.drop (i0 + 1)) ++ [l[m]'(by omega)] := by
  unfold mrow
  rw [Nat.add_sub_cancel, List.take_of_length_le (by simp only [List.length_take, List.length_append, List.length_drop]; omega), show l.drop m = [l[m]'(by omega)] from by rw [List.drop_eq_getElem_cons (by omega), List.drop_of_length_le (by omega)]]

set_option maxRecDepth 100000 in
set_option maxHeartbeats 4000000 in
theorem delf_any (W w : World) (l : List (Nat × Nat)) (i0 a B : Nat) (v : Value) (hown : OwnK W w v (l.map takenC)) (hb : Below W.heap.size W w) (hasc : Od.Asc ka l) (hlen : l.length ≤ 65536) (hi : i0 < l.length) (ha : l[i0].1 = a) (hB : w.cell? ⟨B, 0, none⟩ = some (.int .i64 (a : Nat))) (hBW : B < W.heap.size) :
    Calls Tryz.prog 253 #[v, .func (.func 254) #[] #[.pointer (some ⟨B, 0, none⟩)]] w fun e w' => InsP W ((Od.del ka a l).map takenC) e w' := by
  have HI := Lib.hid (idx_any l i0 a B v w hown.rd hasc hlen hi ha hB)
  obtain ⟨g, n, rfl, hg, hk, hn⟩ := hown.kr (by intro h; rw [List.map_eq_nil_iff] at h; subst h; exact absurd hi (by simp))
  obtain ⟨m, hm⟩ : ∃ m, l.length = m + 1 := ⟨l.length - 1, by omega⟩
  have hnl := hk.le
  rw [List.length_map] at *
  rw [hm] at hnl
  rw [hm] at HI
  have HDL := Lib.hid (del_split hasc hi ha)
  have hne : ∀ j (h : j < l.length), i0 < j → (((l[j].1 : Nat) : Int) == ((a : Nat) : Int)) = false := fun j h hlt => by
    have h1 : l[i0].1 < l[j].1 := List.pairwise_iff_getElem.1 hasc i0 j hi h hlt
    simp; omega
  have HN := Lib.hid hne
  have HD := Lib.hid (And.intro hi (And.intro hm (And.intro hlen (And.intro hg (And.intro hn (And.intro hBW hnl))))))
  have HK := Lib.hid hk
  have HB := Lib.hid (And.intro hb hB)
  have e1 : ((i0 : Nat) : Int) + 1 = ((i0 + 1 : Nat) : Int) := by omega
  have hib : (i0 : Int) < 65536 := by omega
  have h0 : ((i0 : Int) == -1) = false := by first | (simp; done) | (simp; omega)
  rw [hm]
  clear hown hb hasc hlen hi ha hB hg hk hn hne hBW hnl e1
  go_enter Tryz.func253, Tryz.ntmps253
  go_wp2_with fail
  refine HI.out.mono ?_
  rintro e w1 ⟨rfl, hb1⟩
  have HB1 := Lib.hid (And.intro (HB.out.1.trans (hb1.mono HB.out.1.size)) (And.intro (Below.keeps hb1 _ _ HB.out.2) (HK.out.below hb1)))
  clear hb1
  go_wp2_with fail
  go_loopw [5, 6] (fun s5 s6 wr => ∃ j : Nat, i0 + 1 ≤ j ∧ j ≤ m + 1 ∧ s5 = .int .i64 ((j - 1 : Nat) : Int) ∧ s6 = .int .i64 j ∧ Below W.heap.size W wr ∧ wr.cell? ⟨B, 0, none⟩ = some (.int .i64 (a : Nat)) ∧ KR wr g n ((mrow l i0 j).map takenC)) (fun _ s _ => m + 1 - (intOf s).toNat)
  case atStart => exact ⟨i0 + 1, Nat.le_refl _, by have := HD.out.1; have := HD.out.2.1; omega, rfl, by first | rfl | simp, HB1.out.1, HB1.out.2.1, by rw [mrow_first HD.out.1]; exact HB1.out.2.2⟩
  case round =>
    obtain ⟨j, hij, hjm, rfl, rfl, hb, hBc, hk⟩ := hrel
    have HB2 := Lib.hid hb
    have HK2 := Lib.hid hk
    have HBc := Lib.hid hBc
    have hgl := hk.lt
    by_cases hlt : j < m + 1
    · have hjl : j < l.length := by have := HD.out.2.1; omega
      have hml := mrow_len HD.out.1 hij (Nat.le_of_lt hjl)
      have h3 : (j : Int) < ((m : Nat) : Int) + 1 := by omega
      have h5 : (0 : Int) ≤ (j : Int) := by omega
      have h6 : ((j - 1 : Nat) : Int) < ((m : Nat) : Int) + 1 := by omega
      have h7 : (0 : Int) ≤ ((j - 1 : Nat) : Int) := by omega
      have HW := Lib.hid (show wrap64 ((j : Int) + 1) = ((j + 1 : Nat) : Int) by have := HD.out.2.1; have := HD.out.2.2.1; unfold wrap64; omega)
      have HW2 := Lib.hid (show wrap64 (((j - 1 : Nat) : Int) + 1) = ((j + 1 - 1 : Nat) : Int) by have := HD.out.2.1; have := HD.out.2.2.1; unfold wrap64; omega)
      have hat := hk.at' j (by rw [List.length_map, hml]; exact hjl)
      have hge : ((mrow l i0 j).map takenC)[j]'(by rw [List.length_map, hml]; exact hjl) = takenC l[j] := by
        have := mrow_get HD.out.1 hij hjl
        rw [List.getElem_map]
        congr 1
        rw [List.getElem?_eq_getElem (by rw [hml]; exact hjl)] at this
        exact Option.some.inj this
      rw [hge] at hat
      obtain ⟨k0, k1, k2⟩ := hat
      simp only [takenC, pv, Option.map_some] at k0 k1 k2
      have HP := Lib.hid (fun w' h => del1_any (l[j].1 : Nat) a (some ⟨l[j].2, 0, none⟩) true B w' h)
      rw [HN.out j hjl (by omega)] at HP
      have HSet := Lib.hid (mrow_set HD.out.1 hij hjl)
      have HML := Lib.hid hml
      generalize l[j] = ax at *
      obtain ⟨aq, xq⟩ := ax
      simp only at k0 k1 k2
      clear hb hge hml hk
      go_wp2_with fail
      refine (HP.out _ (Below.keeps (by repeat (first | exact Below.refl _ _ | (refine Below.drew ?_) | (refine below_drewN' ?_ _) | (refine below_alloc' ?_ _) | (refine Below.setCell ?_ (by first | exact Nat.le_refl _ | (simp; done) | (simp; omega)) _))) _ _ HBc.out)).mono ?_
      rintro e w3 ⟨rfl, hb3⟩
      have c0 : w3.cell? ⟨wr.heap.size, 0, none⟩ = some (.int .i64 (aq : Nat)) := keepsN hb3 (by simp) _ _ (by simp [go_sem])
      have c1 : w3.cell? ⟨wr.heap.size, 1, none⟩ = some (.pointer (some ⟨xq, 0, none⟩)) := keepsN hb3 (by simp) _ _ (by simp [go_sem])
      have c2 : w3.cell? ⟨wr.heap.size, 2, none⟩ = some (.bool true) := keepsN hb3 (by simp) _ _ (by simp [go_sem])
      have hb4 : Below wr.heap.size wr w3 := below_trans (by repeat (first | exact Below.refl _ _ | (refine Below.drew ?_) | (refine below_drewN' ?_ _) | (refine below_alloc' ?_ _) | (refine Below.setCell ?_ (by first | exact Nat.le_refl _ | (simp; done) | (simp; omega)) _))) hb3
      have hk3 := HK2.out.below hb4
      obtain ⟨u0, hu0⟩ := hk3.room ((j - 1) * 3) (by have := HD.out.2.2.2.2.2.2; omega)
      obtain ⟨u1, hu1⟩ := hk3.room ((j - 1) * 3 + 1) (by have := HD.out.2.2.2.2.2.2; omega)
      obtain ⟨u2, hu2⟩ := hk3.room ((j - 1) * 3 + 2) (by have := HD.out.2.2.2.2.2.2; omega)
      have hf0 := hk3.thaw ((j - 1) * 3)
      have hf1 := hk3.thaw ((j - 1) * 3 + 1)
      have hf2 := hk3.thaw ((j - 1) * 3 + 2)
      have hgl3 := hk3.lt
      have hwl := World.block_lt_of_cell? w3 _ c0
      have HKK := Lib.hid (And.intro hk3 hb4)
      have hBc3 := Below.keeps hb4 _ _ HBc.out
      have HBc3 := Lib.hid hBc3
      clear hk3 hb4 hb3 hBc hBc3 k0 k1 k2
      go_wp2_with fail
      go_roundw
      case rel =>
        have hgB : g ≠ B := by have := HD.out.2.2.2; omega
        have hd := HKK.out.1.set3 (j - 1) ⟨aq, some xq, true⟩ (by rw [List.length_map, HML.out]; omega)
        rw [show (⟨aq, some xq, true⟩ : Cl) = takenC (aq, xq) from rfl, ← List.map_set, HSet.out] at hd
        have hW : W.heap.size ≤ g := HD.out.2.2.2.1
        refine ⟨j + 1, by omega, by omega, by first | rw [HW2.out] | rfl, (by first | rw [HW.out] | rfl | simp), ?_, ?_, hd⟩
        · exact (((HB2.out.trans (HKK.out.2.mono HB2.out.size)).setCell hW _).setCell hW _).setCell hW _
        · rw [World.cell?_setCell_far _ _ _ _ hgB, World.cell?_setCell_far _ _ _ _ hgB, World.cell?_setCell_far _ _ _ _ hgB]; exact HBc3.out
      case measure => (first | (rw [intOf_of' HW.out, intOf_of' rfl]; omega) | (simp [intOf]; omega) | (simp [intOf] <;> omega))
    · obtain rfl : j = m + 1 := by omega
      have h3 : ¬ ((m : Int) + 1 < (m : Int) + 1) := by omega
      have hk' := HK2.out
      rw [mrow_last HD.out.1 HD.out.2.1, ← HDL.out, List.map_append] at hk'
      obtain ⟨rest, hkl⟩ := hk'.kl
      rw [cellsK_append] at hkl
      have hdl : ((Od.del ka a l).map takenC).length = m := by rw [List.length_map, HDL.out, List.length_append, List.length_take, List.length_drop]; have := HD.out.1; have := HD.out.2.1; omega
      have HC := Lib.hid (fun c ty => run_clear3 hkl rfl (m * 3) (by rw [cellsK_length, hdl]) c ty)
      have h6 : ¬ n = m := by have := HD.out.2.2.2.2.2.2; omega
      have h7 : m ≤ n := by have := HD.out.2.2.2.2.2.2; omega
      have h8 : ((m + 1 - 1 : Nat) : Int) = (m : Int) := by omega
      have h9 : m + 1 - m = 1 := by omega
      have HR := Lib.hid (show InsP W ((Od.del ka a l).map takenC) (.returned (.slice (some ⟨g, 0, none⟩) m n)) (wr.setRow g (cellsK ((Od.del ka a l).map takenC) ++ z3 ++ rest).toArray) from by
        have hB := below_setRow HB2.out HD.out.2.2.2.1 (cellsK ((Od.del ka a l).map takenC) ++ z3 ++ rest).toArray
        have hkl2 : KL (wr.setRow g (cellsK ((Od.del ka a l).map takenC) ++ z3 ++ rest).toArray) g n (cellsK ((Od.del ka a l).map takenC) ++ (z3 ++ rest)) := ⟨by rw [← List.append_assoc]; exact setRow_heap wr g _ _ _ _ hkl.1, by
          have := hkl.2; simp only [List.length_append, cellsK_length, List.length_map, List.length_singleton] at this ⊢; show _ + (3 + _) = _; omega⟩
        have ho := hkl2.kr.own HD.out.2.2.2.1 HD.out.2.2.2.2.1
        rw [hdl] at ho
        exact ⟨_, rfl, ho, hB⟩)
      generalize cellsK ((Od.del ka a l).map takenC) ++ z3 ++ rest = row at *
      clear hk hb hk' hkl hdl hBc
      go_wp2_with (refine wpList_clear_run rfl rfl rfl (HC.out _ _) ?_)
      go_ret
      exact HR.out

set_option maxRecDepth 100000 in
set_option maxHeartbeats 2000000 in
/-- Del, of an address that holds something -/
theorem sdel_some (b k a i0 : Nat) (l : List (Nat × Nat)) (w : World) (hs : SlR w b k l) (hi : i0 < l.length) (ha : l[i0].1 = a) :
    Calls Tryz.prog 238 #[.pointer (some ⟨b, 0, none⟩), .int .i64 (a : Nat)] w fun e w' => SlT w k (Od.del ka a l) e w' := by
  obtain ⟨v, g2, hr⟩ := hs.c2
  have hp := pow_le k hs.k16
  have hlen := hs.rw'.len
  have hak := hs.rw'.lt _ (List.getElem_mem hi)
  rw [ha] at hak
  have HS := Lib.hid hs
  have HCK := Lib.hid (fun w' h0 => check_any b k (a : Nat) w' h0 hs.k16)
  rw [show ckC k ((a : Nat) : Int) = 0 by unfold ckC ckOk; rw [if_pos]; exact decide_eq_true (by omega)] at HCK
  have HG := Lib.hid (fun w' h => get_any b k l (a : Nat) w' h)
  have hlk : lookI l ((a : Nat) : Int) = some l[i0].2 := by
    unfold lookI
    rw [if_neg (by omega), Int.toNat_natCast, show Od.look ka l a = some l[i0] by rw [← ha]; exact Od.look_mem (key := ka) hs.rw'.asc (List.getElem_mem hi)]
    rfl
  rw [hlk] at HG
  have HD := Lib.hid (And.intro hi (And.intro ha (And.intro hlen hp)))
  have hb := World.block_lt_of_cell? w _ hs.c0
  obtain ⟨x, hx⟩ : ∃ x, l[i0].2 = x := ⟨_, rfl⟩
  rw [hx] at HG
  clear hs hr hp hlen ha g2 hak hlk hx
  simp only [pv, Option.map_some, Option.isSome_some] at HG
  go_enter Tryz.func238, Tryz.ntmps238
  go_wp2_with fail
  refine (HCK.out _ ?_).mono ?_
  · exact Below.keeps (by repeat (first | exact Below.refl _ _ | (refine Below.drew ?_) | (refine below_drewN' ?_ _) | (refine below_alloc' ?_ _) | (refine Below.setCell ?_ (by first | exact Nat.le_refl _ | (simp; done) | (simp; omega)) _))) _ _ HS.out.c0
  rintro e w1 ⟨rfl, hw⟩
  obtain rfl := hw.symm
  go_wp2_with fail
  refine (HG.out _ (HS.out.below (by repeat (first | exact Below.refl _ _ | (refine Below.drew ?_) | (refine below_drewN' ?_ _) | (refine below_alloc' ?_ _) | (refine Below.setCell ?_ (by first | exact Nat.le_refl _ | (simp; done) | (simp; omega)) _))))).mono ?_
  rintro e w2 ⟨rfl, hb2⟩
  have cB : w2.cell? ⟨w.heap.size, 0, none⟩ = some (.int .i64 (a : Nat)) := keepsN hb2 (by simp) _ _ (by simp [go_sem])
  have hb3 : Below w.heap.size w w2 := below_trans (by repeat (first | exact Below.refl _ _ | (refine Below.drew ?_) | (refine below_drewN' ?_ _) | (refine below_alloc' ?_ _) | (refine Below.setCell ?_ (by first | exact Nat.le_refl _ | (simp; done) | (simp; omega)) _))) hb2
  have hs2 := HS.out.below hb3
  have HS2 := Lib.hid (And.intro hs2 (And.intro hb3 cB))
  have c0 := hs2.c0
  have hbl := World.block_lt_of_cell? w2 _ c0
  have hBl := World.block_lt_of_cell? w2 _ cB
  have CC0 := Lib.hid c0
  have HTH := Lib.hid (show ∀ w', Below w2.heap.size w2 w' → Calls Tryz.prog 221 #[.pointer (some ⟨b, 0, none⟩)] w' fun e w'' => ∃ v', e = .returned v' ∧ OwnK w' w'' v' (l.map takenC) ∧ Below w'.heap.size w' w'' from fun w' h => by
    obtain ⟨sv, g2, hr⟩ := (hs2.below h).c2
    have := things_any b (lay k l) sv w' g2 hr (lay_len hs2.rw' hs2.k16)
    rwa [has_lay hs2.rw'] at this)
  have HDF := Lib.hid (show ∀ w' v, OwnK w2 w' v (l.map takenC) → Below w2.heap.size w2 w' → Calls Tryz.prog 253 #[v, .func (.func 254) #[] #[.pointer (some ⟨w.heap.size, 0, none⟩)]] w' fun e w'' => InsP w2 ((Od.del ka a l).map takenC) e w'' from fun w' v ho hb =>
    delf_any w2 w' l i0 a w.heap.size v ho hb hs2.rw'.asc (by have := HD.out.2.2; omega) HD.out.1 HD.out.2.1 (Below.keeps hb _ _ cB) hBl)
  have HKP := Lib.hid (fun v w' h ht => kept_any k (Od.del ka a l) v w' h ht (hs2.rw'.del a) hs2.k1 hs2.k16)
  clear hb2 hb3 hs2 cB c0
  obtain ⟨L, hL⟩ : ∃ L, Od.del ka a l = L := ⟨_, rfl⟩
  rw [hL] at HDF HKP
  have HLL := Lib.hid hL
  clear hL
  go_wp2_with fail
  refine wp_region_flags 7 (fun _ => True) (fun wz => Below w2.heap.size w2 wz) (fun q wa wb => match q with | 5 => Below wa.heap.size wa wb | 7 => Below w2.heap.size w2 wb | _ => wb = wa) 8 [fun _ z9 _ => z9 = .pointer (some ⟨b, 0, none⟩),
    fun _ z9 _ => z9 = .pointer (some ⟨b, 0, none⟩),
    fun _ z9 _ => z9 = .pointer (some ⟨b, 0, none⟩),
    fun _ z9 _ => z9 = .int .i64 (k : Nat),
    fun _ z9 _ => z9 = .pointer (some ⟨b, 0, none⟩),
    fun d9 v9 w9 => d9 7 = false → OwnK w2 w9 v9 (l.map takenC),
    fun _ z9 _ => z9 = .func (.func 254) #[] #[.pointer (some ⟨w.heap.size, 0, none⟩)],
    fun d9 v9 w9 => OwnK w2 w9 v9 (L.map takenC)]
    (by kernel_rfl) (by kernel_rfl) (by kernel_rfl) (by kernel_rfl) (trivial) ((Below.refl _ _).drew) ?_ ?_ ?_ ?_ ?_
  · intro jq wa wb hj hne h hb
    match jq, hj, hne with
    | 0, _, hne =>
    obtain rfl : wb = wa := hb
    exact h
    | 1, _, hne =>
    obtain rfl : wb = wa := hb
    exact h
    | 2, _, hne =>
    obtain rfl : wb = wa := hb
    exact h
    | 3, _, hne =>
    obtain rfl : wb = wa := hb
    exact h
    | 4, _, hne =>
    obtain rfl : wb = wa := hb
    exact h
    | 5, _, hne =>
    have hb : Below wa.heap.size wa wb := hb
    exact trivial
    | 6, _, hne =>
    obtain rfl : wb = wa := hb
    exact h
    | 7, _, hne => exact absurd rfl hne
  · intro jq wa wb hj h hb
    match jq, hj with
    | 0, _ =>
    obtain rfl : wb = wa := hb
    exact h
    | 1, _ =>
    obtain rfl : wb = wa := hb
    exact h
    | 2, _ =>
    obtain rfl : wb = wa := hb
    exact h
    | 3, _ =>
    obtain rfl : wb = wa := hb
    exact h
    | 4, _ =>
    obtain rfl : wb = wa := hb
    exact h
    | 5, _ =>
    have hb : Below wa.heap.size wa wb := hb
    exact h.trans (hb.mono h.size)
    | 6, _ =>
    obtain rfl : wb = wa := hb
    exact h
    | 7, _ =>
    have hb : Below w2.heap.size w2 wb := hb
    exact hb
  · intro iq jq v wa wb d9 d9' hi hj hne han hdk hdj h hb
    match iq, jq, hi, hj, hne, han, hdk, hdj with
    | 0, 0, _, _, hne, han, hdk, hdj => exact absurd rfl hne
    | 0, 1, _, _, hne, han, hdk, hdj => exact h
    | 0, 2, _, _, hne, han, hdk, hdj => exact h
    | 0, 3, _, _, hne, han, hdk, hdj => exact h
    | 0, 4, _, _, hne, han, hdk, hdj => exact h
    | 0, 5, _, _, hne, han, hdk, hdj => exact h
    | 0, 6, _, _, hne, han, hdk, hdj => exact h
    | 0, 7, _, _, hne, han, hdk, hdj => exact h
    | 1, 0, _, _, hne, han, hdk, hdj => exact h
    | 1, 1, _, _, hne, han, hdk, hdj => exact absurd rfl hne
    | 1, 2, _, _, hne, han, hdk, hdj => exact h
    | 1, 3, _, _, hne, han, hdk, hdj => exact h
    | 1, 4, _, _, hne, han, hdk, hdj => exact h
    | 1, 5, _, _, hne, han, hdk, hdj => exact h
    | 1, 6, _, _, hne, han, hdk, hdj => exact h
    | 1, 7, _, _, hne, han, hdk, hdj => exact h
    | 2, 0, _, _, hne, han, hdk, hdj => exact h
    | 2, 1, _, _, hne, han, hdk, hdj => exact h
    | 2, 2, _, _, hne, han, hdk, hdj => exact absurd rfl hne
    | 2, 3, _, _, hne, han, hdk, hdj => exact h
    | 2, 4, _, _, hne, han, hdk, hdj => exact h
    | 2, 5, _, _, hne, han, hdk, hdj => exact h
    | 2, 6, _, _, hne, han, hdk, hdj => exact h
    | 2, 7, _, _, hne, han, hdk, hdj => exact h
    | 3, 0, _, _, hne, han, hdk, hdj => exact h
    | 3, 1, _, _, hne, han, hdk, hdj => exact h
    | 3, 2, _, _, hne, han, hdk, hdj => exact h
    | 3, 3, _, _, hne, han, hdk, hdj => exact absurd rfl hne
    | 3, 4, _, _, hne, han, hdk, hdj => exact h
    | 3, 5, _, _, hne, han, hdk, hdj => exact h
    | 3, 6, _, _, hne, han, hdk, hdj => exact h
    | 3, 7, _, _, hne, han, hdk, hdj => exact h
    | 4, 0, _, _, hne, han, hdk, hdj => exact h
    | 4, 1, _, _, hne, han, hdk, hdj => exact h
    | 4, 2, _, _, hne, han, hdk, hdj => exact h
    | 4, 3, _, _, hne, han, hdk, hdj => exact h
    | 4, 4, _, _, hne, han, hdk, hdj => exact absurd rfl hne
    | 4, 5, _, _, hne, han, hdk, hdj => exact h
    | 4, 6, _, _, hne, han, hdk, hdj => exact h
    | 4, 7, _, _, hne, han, hdk, hdj => exact h
    | 5, 0, _, _, hne, han, hdk, hdj => 
    obtain rfl : wb = wa := hb
    (have h : d9 7 = false → OwnK w2 wb v (l.map takenC) := h)
    exact fun h9 => h (by rw [← hdk 7 (by decide)]; exact h9)
    | 5, 1, _, _, hne, han, hdk, hdj => 
    obtain rfl : wb = wa := hb
    (have h : d9 7 = false → OwnK w2 wb v (l.map takenC) := h)
    exact fun h9 => h (by rw [← hdk 7 (by decide)]; exact h9)
    | 5, 2, _, _, hne, han, hdk, hdj => 
    obtain rfl : wb = wa := hb
    (have h : d9 7 = false → OwnK w2 wb v (l.map takenC) := h)
    exact fun h9 => h (by rw [← hdk 7 (by decide)]; exact h9)
    | 5, 3, _, _, hne, han, hdk, hdj => 
    obtain rfl : wb = wa := hb
    (have h : d9 7 = false → OwnK w2 wb v (l.map takenC) := h)
    exact fun h9 => h (by rw [← hdk 7 (by decide)]; exact h9)
    | 5, 4, _, _, hne, han, hdk, hdj => 
    obtain rfl : wb = wa := hb
    (have h : d9 7 = false → OwnK w2 wb v (l.map takenC) := h)
    exact fun h9 => h (by rw [← hdk 7 (by decide)]; exact h9)
    | 5, 5, _, _, hne, han, hdk, hdj => exact absurd rfl hne
    | 5, 6, _, _, hne, han, hdk, hdj => 
    obtain rfl : wb = wa := hb
    (have h : d9 7 = false → OwnK w2 wb v (l.map takenC) := h)
    exact fun h9 => h (by rw [← hdk 7 (by decide)]; exact h9)
    | 5, 7, _, _, hne, han, hdk, hdj => 
    (first | exact absurd (han.symm.trans (by decide +kernel) : false = true) (by decide) | ((have hb : Below w2.heap.size w2 wb := hb); (have h : d9 7 = false → OwnK w2 wa v (l.map takenC) := h); (intro h9; rw [hdj] at h9; cases h9)))
    | 6, 0, _, _, hne, han, hdk, hdj => exact h
    | 6, 1, _, _, hne, han, hdk, hdj => exact h
    | 6, 2, _, _, hne, han, hdk, hdj => exact h
    | 6, 3, _, _, hne, han, hdk, hdj => exact h
    | 6, 4, _, _, hne, han, hdk, hdj => exact h
    | 6, 5, _, _, hne, han, hdk, hdj => exact h
    | 6, 6, _, _, hne, han, hdk, hdj => exact absurd rfl hne
    | 6, 7, _, _, hne, han, hdk, hdj => exact h
    | 7, 0, _, _, hne, han, hdk, hdj => 
    obtain rfl : wb = wa := hb
    (have h : OwnK w2 wb v (L.map takenC) := h)
    exact h
    | 7, 1, _, _, hne, han, hdk, hdj => 
    obtain rfl : wb = wa := hb
    (have h : OwnK w2 wb v (L.map takenC) := h)
    exact h
    | 7, 2, _, _, hne, han, hdk, hdj => 
    obtain rfl : wb = wa := hb
    (have h : OwnK w2 wb v (L.map takenC) := h)
    exact h
    | 7, 3, _, _, hne, han, hdk, hdj => 
    obtain rfl : wb = wa := hb
    (have h : OwnK w2 wb v (L.map takenC) := h)
    exact h
    | 7, 4, _, _, hne, han, hdk, hdj => 
    obtain rfl : wb = wa := hb
    (have h : OwnK w2 wb v (L.map takenC) := h)
    exact h
    | 7, 5, _, _, hne, han, hdk, hdj => 
    (first | exact absurd (han.symm.trans (by decide +kernel) : false = true) (by decide) | ((have hb : Below wa.heap.size wa wb := hb); (have h : OwnK w2 wa v (L.map takenC) := h); fail))
    | 7, 6, _, _, hne, han, hdk, hdj => 
    obtain rfl : wb = wa := hb
    (have h : OwnK w2 wb v (L.map takenC) := h)
    exact h
    | 7, 7, _, _, hne, han, hdk, hdj => exact absurd rfl hne
  · intro iq o hi ho
    match iq, hi with
    | 0, _ =>
    obtain rfl := Option.some.inj ho
    intro a1 w1 K d9 hk hK
    have e0 : a1.tmps.getD 0 undef = .pointer (some ⟨b, 0, none⟩) := hk.same 0 (by simp)
    simp [Region.wanted, Oper.wp, Act.eval, go_sem, e0, hbl, hBl]
    exact hK _ _ rfl (fun d8 _ _ => rfl)
    | 1, _ =>
    obtain rfl := Option.some.inj ho
    intro a1 w1 K d9 hk hK
    have d23 : a1.tmps.getD 23 undef = .pointer (some ⟨b, 0, none⟩) := hk.deps ⟨0, .data⟩ (by simp) rfl _ _ rfl rfl
    simp [Region.wanted, Oper.wp, Act.eval, go_sem, d23, hbl, hBl]
    exact hK _ _ rfl (fun d8 _ _ => rfl)
    | 2, _ =>
    obtain rfl := Option.some.inj ho
    intro a1 w1 K d9 hk hK
    have d24 : a1.tmps.getD 24 undef = .pointer (some ⟨b, 0, none⟩) := hk.deps ⟨1, .data⟩ (by simp) rfl _ _ rfl rfl
    simp [Region.wanted, Oper.wp, Act.eval, go_sem, d24, hbl, hBl]
    exact hK _ _ rfl (fun d8 _ _ => rfl)
    | 3, _ =>
    obtain rfl := Option.some.inj ho
    intro a1 w1 K d9 hk hK
    have d25 : a1.tmps.getD 25 undef = .pointer (some ⟨b, 0, none⟩) := hk.deps ⟨2, .data⟩ (by simp) rfl _ _ rfl rfl
    have c0 : w1.cell? ⟨b, 0, none⟩ = some (.int .i64 (k : Nat)) := Below.keeps hk.p1 _ _ CC0.out
    simp [Region.wanted, Oper.wp, Act.eval, go_sem, d25, c0, hbl, hBl]
    exact hK _ _ rfl (fun d8 _ _ => rfl)
    | 4, _ =>
    obtain rfl := Option.some.inj ho
    intro a1 w1 K d9 hk hK
    have e0 : a1.tmps.getD 0 undef = .pointer (some ⟨b, 0, none⟩) := hk.same 0 (by simp)
    simp [Region.wanted, Oper.wp, Act.eval, go_sem, e0, hbl, hBl]
    exact hK _ _ rfl (fun d8 _ _ => rfl)
    | 5, _ =>
    obtain rfl := Option.some.inj ho
    intro a1 w1 K d9 hk hK
    have d27 : a1.tmps.getD 27 undef = .pointer (some ⟨b, 0, none⟩) := hk.deps ⟨4, .data⟩ (by simp) rfl _ _ rfl rfl
    simp [Region.wanted, Oper.wp, Act.eval, go_sem, d27, hbl, hBl]
    refine (HTH.out _ hk.p1).mono ?_
    rintro e w9 ⟨v9, rfl, ho9, hb9⟩
    exact hK _ _ hb9 (fun _ _ _ _ => ho9.base hk.p1.size)
    | 6, _ =>
    obtain rfl := Option.some.inj ho
    intro a1 w1 K d9 hk hK
    have e3 : a1.tmps.getD 3 undef = .pointer (some ⟨w.heap.size, 0, none⟩) := hk.same 3 (by simp)
    simp [Region.wanted, Oper.wp, Act.eval, go_sem, e3, hbl, hBl]
    exact hK _ _ rfl (fun d8 _ _ => rfl)
    | 7, _ =>
    obtain rfl := Option.some.inj ho
    intro a1 w1 K d9 hk hK
    have D28 : d9 7 = false → OwnK w2 w1 (a1.tmps.getD 28 undef) (l.map takenC) := hk.deps ⟨5, .data⟩ (by simp) rfl _ _ rfl rfl
    have d29 : a1.tmps.getD 29 undef = .func (.func 254) #[] #[.pointer (some ⟨w.heap.size, 0, none⟩)] := hk.deps ⟨6, .data⟩ (by simp) rfl _ _ rfl rfl
    have hown := D28 hk.not
    obtain ⟨A, cp, e28, _⟩ := hown.shape
    rw [List.length_map] at e28
    have e28x : a1.tmps[28]?.getD undef = .slice A l.length cp := by rw [← e28]; simp
    rw [e28] at hown
    have HOW := Lib.hid hown
    clear hown D28
    simp [Region.wanted, Oper.wp, Act.eval, go_sem, e28, e28x, d29]
    refine (HDF.out w1 (.slice A l.length cp) HOW.out hk.p1).mono ?_
    rintro e w9 ⟨v9, rfl, ho9, hb9⟩
    exact hK _ _ hb9 (fun _ _ _ => ho9)
  · intro vs w3 hl hp3 hv
    match vs, hl with
    | [v0, v1, v2, v3, v4, v5, v6, v7], _ =>
    obtain rfl : v0 = .pointer (some ⟨b, 0, none⟩) := hv 0 (by omega)
    obtain rfl : v1 = .pointer (some ⟨b, 0, none⟩) := hv 1 (by omega)
    obtain rfl : v2 = .pointer (some ⟨b, 0, none⟩) := hv 2 (by omega)
    obtain rfl : v3 = .int .i64 (k : Nat) := hv 3 (by omega)
    obtain rfl : v4 = .pointer (some ⟨b, 0, none⟩) := hv 4 (by omega)
    have q5 : (fun j => decide (j < 8)) 7 = false → OwnK w2 w3 v5 (l.map takenC) := hv 5 (by omega)
    obtain rfl : v6 = .func (.func 254) #[] #[.pointer (some ⟨w.heap.size, 0, none⟩)] := hv 6 (by omega)
    have q7 : OwnK w2 w3 v7 (L.map takenC) := hv 7 (by omega)
    clear hv
    simp only [putAll, List.take_succ_cons, List.take_zero, List.drop_succ_cons, List.drop_zero, Act.put, List.setIfInBounds_toArray, List.set_cons_succ, List.set_cons_zero]
    have HP3 := Lib.hid (And.intro hp3 q7)
    clear hp3 q5 q7
    go_wp2_with fail
    refine (HKP.out _ _ HP3.out.2.rd HP3.out.2.ty).mono ?_
    rintro e w5 ⟨g5, rfl, hs5, hb5⟩
    have HF := Lib.hid (And.intro hs5 (HS2.out.2.1.trans ((HP3.out.1.trans (hb5.mono HP3.out.1.size)).mono HS2.out.2.1.size)))
    clear hs5 hb5
    go_wp2_with fail
    go_ret2
    rw [HLL.out]
    exact ⟨g5, rfl, HF.out⟩
end Go.Proofs.YtdkomhmciihkiaaGreat
/-! SlH -/
namespace Go.Proofs.YtdkomhmciihkiaaGreat
open Go.RowKit
set_option linter.unusedVariables false
set_option linter.unusedSimpArgs false

/-- a row of the call's own of one-cell values -/
def OwnV (e : TypeId) (W w : World) (v : Value) (xs : List Value) : Prop := w.ownsRow W.heap.size e 1 v xs.length xs
theorem OwnV.below {t : TypeId} {W w w' : World} {v : Value} {l : List Value} (h : OwnV t W w v l) (hb : Below w.heap.size w w') : OwnV t W w' v l := by
  obtain ⟨h1, h2⟩ := h
  refine ⟨h1, ?_⟩
  rcases h2 with h2 | ⟨g, cap, cur, q1, q2, q3, q4⟩
  · exact .inl h2
  · exact .inr ⟨g, cap, cur, q1, q2, (hb.block g (Array.getElem?_eq_some_iff.1 q3).1).trans q3, q4⟩
theorem OwnV.block {t : TypeId} {W w : World} {v : Value} {l : List Value} (h : OwnV t W w v l) : ∀ k, v.ownBlock = some k → W.heap.size ≤ k ∧ ∃ cur, w.heap[k]? = some (.cells cur t (0, 0)) := by
  obtain ⟨h1, h2⟩ := h
  intro k hk
  rcases h2 with ⟨rfl, _⟩ | ⟨g, cap, cur, rfl, q2, q3, q4⟩
  · cases hk
  · injection hk with hk; subst hk; exact ⟨q2, cur, q3⟩
theorem OwnV.shape {t : TypeId} {W w : World} {v : Value} {l : List Value} (h : OwnV t W w v l) : ∃ A c, v = .slice A l.length c := by
  obtain ⟨h1, h2⟩ := h
  rcases h2 with ⟨rfl, h0⟩ | ⟨g, cap, cur, rfl, q2, q3, q4, q5, _⟩
  · exact ⟨none, 0, by rw [h0]⟩
  · exact ⟨_, _, rfl⟩
theorem OwnV.rd {t : TypeId} {W w : World} {v : Value} {l : List Value} (h : OwnV t W w v l) : Sl w v l := by
  obtain ⟨h1, h2⟩ := h
  rcases h2 with ⟨rfl, h0⟩ | ⟨g, cap, cur, rfl, hg, hh, hcap, hm, hs, ht⟩
  · exact ⟨none, 0, by rw [h0], fun hp => absurd hp (by omega)⟩
  · refine ⟨_, _, rfl, fun h0 => ⟨g, 0, rfl, fun j hj => ?_⟩⟩
    have h3 : l[j]? = some l[j] := List.getElem?_eq_getElem hj
    have h4 : j < l.length * 1 := by omega
    rw [← h3]
    conv => rhs; rw [← ht]
    rw [List.getElem?_take_of_lt h4, World.cell?]
    simp only [hh, Nat.zero_add]
    simp
theorem OwnV.grown {t : TypeId} {W w w' : World} {v : Value} {l : List Value} (h : OwnV t W w v l) (hb : Below W.heap.size W w) (hg : w.grownBy w' v.ownBlock) : Below W.heap.size W w' :=
  hb.grown hg hb.size fun k hk => (h.block k hk).1
theorem OwnV.base {t : TypeId} {W W' w : World} {v : Value} {l : List Value} (h : OwnV t W' w v l) (hs : W.heap.size ≤ W'.heap.size) : OwnV t W w v l := by
  obtain ⟨h1, h2⟩ := h
  refine ⟨h1, ?_⟩
  rcases h2 with h2 | ⟨g, cap, cur, q1, q2, q3⟩
  · exact .inl h2
  · exact .inr ⟨g, cap, cur, q1, Nat.le_trans hs q2, q3⟩
def SrcV (w : World) (x : Value) (y : Value) : Prop := ∃ b cc, x = .slice (some ⟨b, 0, none⟩) 1 cc ∧ w.cell? ⟨b, 0, none⟩ = some y ∧ y.oneCell' = true
theorem SrcV.src {w : World} {x y : Value} (h : SrcV w x y) : Src w 1 1 x [y] := by
  obtain ⟨b, cc, rfl, k0, h1⟩ := h
  refine ⟨rfl, by simpa using h1, _, cc, rfl, (fun h => by cases h), fun ad had j u hj => ?_⟩
  injection had with had; subst had
  match j with
  | 0 => simp at hj; subst hj; simpa [Addr.add] using k0
  | j + 1 => simp at hj
structure SlT1 (st et : TypeId) (z : Value) : Prop where
  und : Tryz.prog.underlying st = some (.slice et)
  info : (Tryz.prog.info? et).map (fun i => (i.zero, i.size, i.bytes)) = some (some z, 1, 8)
  one : z.cells.size = 1
theorem run_append_V {st et : TypeId} {z : Value} (hi : SlT1 st et z) (W w : World) (v x : Value) (l : List Value) (y : Value) (hown : OwnV et W w v l) (hx : SrcV w x y) (hb : W.heap.size ≤ w.heap.size) (hlen : l.length ≤ 100000) (ty : TypeId) :
    ∃ v' w', (Builtin.append_ #[st, st] ty #[v, x]).run Tryz.prog w = .ok v' w' ∧ OwnV et W w' v' (l ++ [y]) ∧ w.grownBy w' v.ownBlock := by
  obtain ⟨v', w', a1, a2, a3⟩ := run_append_src (P := Tryz.prog) w W.heap.size st ty et z 1 8 hi.und hi.info hi.one (by omega) v l.length l hown x 1 [y] hx.src (by simp only [maxLen]; omega) (by omega) hb
  exact ⟨v', w', a1, by unfold OwnV; rw [List.length_append]; exact a2, a3⟩
theorem wpList_append_V {st et : TypeId} {z : Value} {w : World} {ops : Array Oper} {rest : List Oper} {o : Oper} {a : Act} {Q : Exit → Act → World → Prop} (hgd : o.guard = none) (s x : Operand)
    (ho : o.op = .call { callee := .builtin .append, args := #[s, x], argTypes := #[st, st] }) (W : World) (l : List Value) (y : Value) (hi : SlT1 st et z)
    (hown : OwnV et W w (a.eval s) l) (hx : SrcV w (a.eval x) y) (hb : W.heap.size ≤ w.heap.size) (hlen : l.length ≤ 100000)
    (h : ∀ v' w', OwnV et W w' v' (l ++ [y]) → w.grownBy w' (a.eval s).ownBlock → wpList Tryz.prog ops Q rest (a.put o.dst v') w') : wpList Tryz.prog ops Q (o :: rest) a w := by
  refine wpList_plain hgd fun K hK => ?_
  obtain ⟨v', w', hrun, r1, r2⟩ := run_append_V hi W w _ _ l y hown hx hb hlen o.type
  unfold Oper.wp
  simp [execOp, ho, resolve, invoke, builtin, hrun, Result.andThen]
  exact hK _ _ (h v' w' r1 r2)
theorem nodesT : SlT1 184 113 (.pointer none) := ⟨Tryz.underlying184, by kernel_rfl, by simp [Value.cells]⟩
def nodeV (x : Nat × Nat) : Value := .pointer (some ⟨x.2, 0, none⟩)
set_option maxRecDepth 100000 in
set_option maxHeartbeats 1000000 in
theorem all_any (b k : Nat) (l : List (Nat × Nat)) (w : World) (hs : SlR w b k l) :
    Calls Tryz.prog 228 #[.pointer (some ⟨b, 0, none⟩)] w fun e w' => ∃ v, e = .returned v ∧ OwnV 113 w w' v (l.map nodeV) ∧ Below w.heap.size w w' := by
  obtain ⟨sv, g2, hr⟩ := hs.c2
  have hp := pow_le k hs.k16
  have hlen := hs.rw'.len
  have HT := things_any b (lay k l) sv w g2 hr (lay_len hs.rw' hs.k16)
  rw [has_lay hs.rw'] at HT
  have HTH := Lib.hid HT
  have HL := Lib.hid (show l.length ≤ 65536 by omega)
  clear HT g2 hr hs hp hlen
  go_enter Tryz.func228, Tryz.ntmps228
  go_wp2_with fail
  refine HTH.out.mono ?_
  rintro e w1 ⟨v1, rfl, hown, hb1⟩
  have hrd := hown.rd
  obtain ⟨A, c, rfl, hc, hx⟩ := hrd
  rw [List.length_map] at *
  have HX := Lib.hid hx
  have HB1 := Lib.hid hb1
  clear hown hc hx hb1
  go_wp2_with fail
  go_loopw [3, 11] (fun s i wr => ∃ j : Nat, j ≤ l.length ∧ i = .int .i64 j ∧ OwnV 113 w1 wr s ((l.map nodeV).take j) ∧ Below w1.heap.size w1 wr) (fun _ i _ => l.length - (intOf i).toNat)
  case atStart => exact ⟨0, Nat.zero_le _, rfl, World.ownsRow_nil _ _ _ _, Below.refl _ _⟩
  case round =>
    obtain ⟨j, hj, rfl, hown, hb⟩ := hrel
    have HB := Lib.hid hb
    have HO := Lib.hid hown
    by_cases hlt : j < l.length
    · have h3 : (j : Int) < l.length := by omega
      have h5 : (0 : Int) ≤ (j : Int) := by omega
      have HW := Lib.hid (show wrap64 ((j : Int) + 1) = ((j + 1 : Nat) : Int) by have := HL.out; unfold wrap64; omega)
      have HT := Lib.hid (show (l.map nodeV).take (j + 1) = (l.map nodeV).take j ++ [nodeV l[j]] by rw [← List.take_append_getElem (by rw [List.length_map]; exact hlt), List.getElem_map])
      obtain ⟨b2, o2, rfl, hc⟩ := HX.out (by rw [List.length_map]; omega)
      obtain ⟨k0, k1, k2⟩ := hc j (by rw [List.length_map]; exact hlt)
      simp only [List.getElem_map, takenC, pv, Option.map_some] at k0 k1 k2
      replace k0 := Below.keeps hb _ _ k0
      replace k1 := Below.keeps hb _ _ k1
      replace k2 := Below.keeps hb _ _ k2
      generalize l[j] = ax at *
      obtain ⟨aq, xq⟩ := ax
      simp only at k0 k1 k2
      have hlb := World.block_lt_of_cell? wr _ k0
      clear hc hb hown
      go_wp2_with (at_builtin; refine wpList_append_V rfl (.tmp 15) (.tmp 18) rfl w1 ((l.map nodeV).take j) (nodeV (aq, xq)) nodesT ?_ ?_ ?_ ?_ ?_)
      · exact HO.out.below (by repeat (first | exact Below.refl _ _ | (refine Below.drew ?_) | (refine below_drewN' ?_ _) | (refine below_alloc' ?_ _) | (refine Below.setCell ?_ (by first | exact Nat.le_refl _ | (simp; done) | (simp; omega)) _)))
      · refine ⟨_, _, rfl, ?_, rfl⟩
        simp [go_sem, nodeV]
      · have := HB.out.size; simp; omega
      · first | (have := HL.out; omega) | (rw [List.length_take, List.length_map]; have := HL.out; omega)
      intro v' w' hown' hg
      have HG := Lib.hid (OwnV.grown (HO.out.below (by repeat (first | exact Below.refl _ _ | (refine Below.drew ?_) | (refine below_drewN' ?_ _) | (refine below_alloc' ?_ _) | (refine Below.setCell ?_ (by first | exact Nat.le_refl _ | (simp; done) | (simp; omega)) _)))) (by repeat (first | exact HB.out | (refine Below.drew ?_) | (refine below_drewN' ?_ _) | (refine below_alloc' ?_ _) | (refine Below.setCell ?_ (by first | exact Nat.le_refl _ | (have := HB.out.size; simp; omega) | (have := HB.out.size; omega)) _))) hg)
      have HO' := Lib.hid hown'
      clear hown' hg
      go_wp2_with fail
      go_roundw
      case rel => exact ⟨j + 1, by omega, (by first | rw [HW.out] | rfl | simp), by rw [HT.out]; exact HO'.out, HG.out⟩
      case measure => (first | (rw [intOf_of' HW.out, intOf_of' rfl]; omega) | (simp [intOf]; omega) | (simp [intOf] <;> omega))
    · have e : (l.map nodeV).take j = l.map nodeV := List.take_of_length_le (by rw [List.length_map]; omega)
      rw [e] at HO
      have h3 : ¬ (j : Int) < l.length := by omega
      clear hown hb
      go_wp2_with fail
      go_ret
      exact ⟨_, rfl, HO.out.base HB1.out.size, HB1.out.trans (HB.out.mono HB1.out.size)⟩

theorem len_any (b k : Nat) (l : List (Nat × Nat)) (w : World) (hs : SlR w b k l) : Calls Tryz.prog 239 #[.pointer (some ⟨b, 0, none⟩)] w fun e w' => e = .returned (.int .i64 (l.length : Nat)) ∧ w' = w := by
  have c1 := hs.c1
  have hb := World.block_lt_of_cell? w _ c1
  clear hs
  go_enter Tryz.func239, Tryz.ntmps239
  go_wp2_with fail
  go_ret
  exact ⟨rfl, rfl⟩
theorem snew_any (k : Nat) (w : World) (h1 : 1 ≤ k) (h2 : k ≤ 16) : Calls Tryz.prog 171 #[.int .i64 (k : Nat)] w fun e w' => SlT w k [] e w' := by
  have h3 : ¬ (k : Int) < 1 := by omega
  have h4 : ¬ (k : Int) > 16 := by omega
  have HL := Lib.hid (show lay k [] = [] by unfold lay denseB; simp)
  have HK := Lib.hid (And.intro h1 h2)
  clear h1 h2
  go_enter Tryz.func171, Tryz.ntmps171
  go_wp2_with fail
  go_ret2
  exact ⟨_, rfl, ⟨by simp [go_sem], by simp [go_sem], ⟨_, by simp [go_sem]; rfl, by rw [HL.out]; exact (OwnK.nil w _).rd⟩, ⟨List.Pairwise.nil, fun x hx => by cases hx⟩, HK.out.1, HK.out.2, ⟨_, _, alloc_cells _ _⟩, ⟨.slice none 0 0, by simp [go_sem], TyB.nilS _ _ _ _⟩⟩, (by repeat (first | exact Below.refl _ _ | (refine Below.drew ?_) | (refine below_drewN' ?_ _) | (refine below_alloc' ?_ _) | (refine Below.setCell ?_ (by first | exact Nat.le_refl _ | (simp; done) | (simp; omega)) _)))⟩
end Go.Proofs.YtdkomhmciihkiaaGreat
