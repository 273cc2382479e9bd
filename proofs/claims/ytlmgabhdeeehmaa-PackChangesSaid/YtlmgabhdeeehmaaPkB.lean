/-
  Rows of bytes; the walks of pantileref19.Bytes and point.
-/
import Derived.Test.YtlmgabhdeeehmaaOwnF
import Derived.Test.YtlmgabhdeeehmaaPackPure
namespace Go.Proofs.Ytlmgabhdeeehmaa
open Go.RowKit
set_option linter.unusedVariables false
set_option linter.unusedSimpArgs false

def ptb (bs : List Nat) : List Value := bs.map fun n => .int .u8 ((n : Nat) : Int)
theorem ptb_length (bs : List Nat) : (ptb bs).length = bs.length := by unfold ptb; simp
theorem ptb_append (a b : List Nat) : ptb (a ++ b) = ptb a ++ ptb b := by unfold ptb; simp
theorem ptb_one (bs : List Nat) : ∀ u ∈ ptb bs, u.oneCell' = true := by
  intro u hu
  unfold ptb at hu
  simp only [List.mem_map] at hu
  obtain ⟨n, _, rfl⟩ := hu
  rfl
/-- the slice value v reads as the bytes bs -/
def RdB (w : World) (v : Value) (bs : List Nat) : Prop :=
  ∃ A c, v = .slice A bs.length c ∧ (bs.length ≤ c ∧ c ≤ maxLen ∧ (0 < c → ∃ b o, A = some ⟨b, o, none⟩)) ∧ (0 < bs.length → ∃ b o, A = some ⟨b, o, none⟩ ∧ ∀ j (h : j < bs.length), w.cell? ⟨b, o + j, none⟩ = some (.int .u8 ((bs[j] : Nat) : Int)))
theorem RdB.keep {w w' : World} {v : Value} {bs : List Nat} (h : RdB w v bs) (hk : ∀ a x, w.cell? a = some x → w'.cell? a = some x) : RdB w' v bs := by
  obtain ⟨A, c, e, hl, h⟩ := h
  exact ⟨A, c, e, hl, fun hp => let ⟨b, o, ha, hc⟩ := h hp; ⟨b, o, ha, fun j hj => hk _ _ (hc j hj)⟩⟩
theorem RdB.below {w w' : World} {v : Value} {bs : List Nat} (h : RdB w v bs) (hb : Below w.heap.size w w') : RdB w' v bs := h.keep (Below.keeps hb)
/-- v is a row of the call's own that holds bytes (a row out of a string is marked behind its end) -/
def OwnB (W w : World) (v : Value) (bs : List Nat) : Prop :=
  (v = .slice none 0 0 ∧ bs = []) ∨ ∃ g cap cur fz, v = .slice (some ⟨g, 0, none⟩) bs.length cap ∧ W.heap.size ≤ g ∧ w.heap[g]? = some (.cells cur 5 fz) ∧ (bs.length ≤ cap ∧ cap ≤ maxLen ∧ cur.size = cap) ∧
    (∀ k, k < cap → w.frozen? ⟨g, k, none⟩ = false) ∧ ∀ j (h : j < bs.length), w.cell? ⟨g, j, none⟩ = some (.int .u8 ((bs[j] : Nat) : Int))
theorem OwnB.rd {W w : World} {v : Value} {bs : List Nat} (h : OwnB W w v bs) : RdB w v bs := by
  rcases h with ⟨rfl, rfl⟩ | ⟨g, cap, cur, fz, rfl, hg, hh, ⟨h1, h2, h3⟩, hf, hc⟩
  · exact ⟨none, 0, rfl, ⟨Nat.le_refl _, Nat.zero_le _, fun h => absurd h (by omega)⟩, fun hp => absurd hp (by simp)⟩
  · exact ⟨_, _, rfl, ⟨h1, h2, fun _ => ⟨g, 0, rfl⟩⟩, fun hp => ⟨g, 0, rfl, fun j hj => by rw [Nat.zero_add]; exact hc j hj⟩⟩
theorem OwnB.of_row {W w : World} {v : Value} {n : Nat} {bs : List Nat} (hn : n = bs.length) (hb : W.heap.size ≤ w.heap.size) {base : Nat} (hbase : W.heap.size ≤ base) (h : w.ownsRow base 5 1 v n (ptb bs)) : OwnB W w v bs := by
  subst hn
  obtain ⟨h1, h2⟩ := h
  rcases h2 with ⟨rfl, h0⟩ | ⟨g, cap, cur, rfl, hg, hh, hcap, hm, hs, ht⟩
  · exact .inl ⟨rfl, List.eq_nil_of_length_eq_zero h0⟩
  · refine .inr ⟨g, cap, cur, _, rfl, Nat.le_trans hbase hg, hh, ⟨hcap, hm, by omega⟩, fun k hk => by simp [World.frozen?, hh], fun j hj => ?_⟩
    have h4 : j < bs.length * 1 := by omega
    have h3 : (ptb bs)[j]? = some (.int .u8 ((bs[j] : Nat) : Int)) := by
      unfold ptb; rw [List.getElem?_map, List.getElem?_eq_getElem hj]; rfl
    rw [← h3, ← ht, List.getElem?_take_of_lt h4, World.cell?]
    simp only [hh]
    simp
theorem OwnB.nil (W w : World) : OwnB W w (.slice none 0 0) [] := .inl ⟨rfl, rfl⟩
theorem OwnB.lit {W w : World} (hb : W.heap.size ≤ w.heap.size) {g : Nat} (hg : g = w.heap.size) : OwnB W (w.alloc (.cells #[] 5)) (.slice (some ⟨g, 0, none⟩) 0 0) [] := by
  subst hg; exact OwnB.of_row (base := w.heap.size) rfl (by simp; omega) hb (World.ownsRow_lit w #[] 0 (Nat.le_refl _) (by simp [maxLen]) (by simp))
theorem OwnB.lit2 {W w : World} (hb : W.heap.size ≤ w.heap.size) {g : Nat} (hg : g = w.heap.size) (a b : Nat) : OwnB W (w.alloc (.cells #[.int .u8 a, .int .u8 b] 5)) (.slice (some ⟨g, 0, none⟩) 2 2) [a, b] := by
  subst hg; exact OwnB.of_row (base := w.heap.size) rfl (by simp; omega) hb (World.ownsRow_lit w #[.int .u8 a, .int .u8 b] 2 (Nat.le_refl _) (by simp [maxLen]) (by simp))
theorem OwnB.keepBlock {W w w' : World} {v : Value} {bs : List Nat} (h : OwnB W w v bs) (hk : ∀ (b : Nat), v.ownBlock = some b → w'.heap[b]? = w.heap[b]?) : OwnB W w' v bs := by
  rcases h with h | ⟨g, cap, cur, fz, rfl, hg, hh, h3, hf, hc⟩
  · exact .inl h
  · have e := hk g rfl
    exact .inr ⟨g, cap, cur, fz, rfl, hg, e.trans hh, h3, fun k hkk => by rw [World.frozen?_of_block (w := w) (w' := w') (a := ⟨g, k, none⟩) e]; exact hf k hkk, fun j hj => by rw [World.cell?_of_block (w := w) (w' := w') (a := ⟨g, j, none⟩) e]; exact hc j hj⟩
theorem OwnB.block {W w : World} {v : Value} {bs : List Nat} (h : OwnB W w v bs) : ∀ k, v.ownBlock = some k → W.heap.size ≤ k ∧ k < w.heap.size ∧ ∃ cur fz, w.heap[k]? = some (.cells cur 5 fz) := by
  intro k hk
  rcases h with ⟨rfl, _⟩ | ⟨g, cap, cur, fz, rfl, hg, hh, _⟩
  · cases hk
  · injection hk with hk; subst hk; exact ⟨hg, (Array.getElem?_eq_some_iff.1 hh).1, cur, fz, hh⟩
theorem OwnB.below {W w w' : World} {v : Value} {bs : List Nat} (h : OwnB W w v bs) (hb : Below w.heap.size w w') : OwnB W w' v bs :=
  h.keepBlock fun b hbk => hb.block b (h.block b hbk).2.1
theorem OwnB.alloc {W w : World} {v : Value} {bs : List Nat} (h : OwnB W w v bs) (o : Obj) : OwnB W (w.alloc o) v bs := h.below (below_alloc' (Below.refl _ _) _)
theorem OwnB.shape {W w : World} {v : Value} {bs : List Nat} (h : OwnB W w v bs) : ∃ A c, v = .slice A bs.length c := by
  rcases h with ⟨rfl, rfl⟩ | ⟨g, cap, cur, fz, rfl, _⟩
  · exact ⟨none, 0, rfl⟩
  · exact ⟨_, _, rfl⟩
theorem setCells_block (g : Nat) : ∀ (vs : List Value) (o : Nat) (w : World) (cur : Array Value) (e : TypeId) (fz : Nat × Nat), w.heap[g]? = some (.cells cur e fz) → ∃ cur', cur'.size = cur.size ∧ (w.setCells g o vs).heap[g]? = some (.cells cur' e fz)
  | [], _, w, cur, e, fz, h => ⟨cur, rfl, h⟩
  | v :: r, o, w, cur, e, fz, h => by
    have h2 : (w.setCell ⟨g, o, none⟩ v).heap[g]? = some (.cells (cur.setIfInBounds o v) e fz) := by
      have hlt := lt_of_block h
      have h' : w.heap[g] = .cells cur e fz := by simpa [Array.getElem?_eq_getElem hlt] using h
      show (w.heap.modify g _)[g]? = _
      rw [Array.getElem?_eq_getElem (by simpa using hlt), Array.getElem_modify_self, h']
      rfl
    obtain ⟨cur', h3, h4⟩ := setCells_block g r (o + 1) _ _ e fz h2
    exact ⟨cur', by rw [h3]; simp, h4⟩
theorem setCells_other (g : Nat) : ∀ (vs : List Value) (o : Nat) (w : World) (k : Nat), k ≠ g → (w.setCells g o vs).heap[k]? = w.heap[k]?
  | [], _, _, _, _ => rfl
  | v :: r, o, w, k, h => by rw [World.setCells, setCells_other g r _ _ k h]; exact Below.heap_setCell _ _ _ _ h
theorem setCells_below (g B : Nat) (hB : B ≤ g) : ∀ (vs : List Value) (o : Nat) (w w' : World), Below B w w' → Below B w (w'.setCells g o vs)
  | [], _, _, _, h => h
  | v :: r, o, w, w', h => setCells_below g B hB r (o + 1) w _ (h.setCell hB _)
theorem u8Info : (Try.prog.info? 5).map (fun i => (i.zero, i.size, i.bytes)) = some (some (.int .u8 0), 1, 1) := by kernel_rfl
theorem RdB.src {w : World} {v : Value} {bs : List Nat} (h : RdB w v bs) : Src w 1 bs.length v (ptb bs) := by
  obtain ⟨A, c, rfl, hcap, hm⟩ := h
  refine ⟨by rw [ptb_length]; omega, ptb_one bs, A, c, rfl, fun h => ?_, fun ad had j u hj => ?_⟩
  · have hc : c = 0 := by
      by_cases hc : 0 < c
      · obtain ⟨b, o, e⟩ := hcap.2.2 hc
        rw [h] at e; cases e
      · omega
    exact ⟨by omega, hc⟩
  · have hjl : j < bs.length := by
      have := (List.getElem?_eq_some_iff.1 hj).1
      rw [ptb_length] at this; exact this
    obtain ⟨b, o, ha, hc⟩ := hm (by omega)
    rw [had] at ha
    injection ha with ha
    subst ha
    have h3 : (ptb bs)[j]? = some (.int .u8 ((bs[j] : Nat) : Int)) := by
      unfold ptb; rw [List.getElem?_map, List.getElem?_eq_getElem hjl]; rfl
    rw [h3] at hj
    injection hj with hj
    rw [← hj, show (⟨b, o, none⟩ : Addr).add j = ⟨b, o + j, none⟩ by
      unfold Addr.add; split
      · rename_i h; subst h; rfl
      · rfl]
    exact hc j hjl
theorem RdB.one {w : World} {b c : Nat} {n : Nat} (h1 : 1 ≤ c) (h2 : c ≤ maxLen) (h : w.cell? ⟨b, 0, none⟩ = some (.int .u8 ((n : Nat) : Int))) : RdB w (.slice (some ⟨b, 0, none⟩) 1 c) [n] :=
  ⟨_, c, rfl, ⟨h1, h2, fun _ => ⟨_, _, rfl⟩⟩, fun _ => ⟨b, 0, rfl, fun j hj => by
    obtain rfl : j = 0 := by simp at hj; omega
    simpa using h⟩⟩
theorem ptb_get {bs : List Nat} {j : Nat} {u : Value} (h : (ptb bs)[j]? = some u) : ∃ hj : j < bs.length, u = .int .u8 ((bs[j] : Nat) : Int) := by
  have hj : j < bs.length := by
    have := (List.getElem?_eq_some_iff.1 h).1
    rw [ptb_length] at this; exact this
  refine ⟨hj, ?_⟩
  unfold ptb at h
  rw [List.getElem?_map, List.getElem?_eq_getElem hj] at h
  injection h with h
  exact h.symm
theorem addr_plain (b o j : Nat) : (⟨b, o, none⟩ : Addr).add j = ⟨b, o + j, none⟩ := by
  unfold Addr.add; split
  · rename_i h; subst h; rfl
  · rfl
theorem run_append_B (W w : World) (v x : Value) (bs ms : List Nat) (hown : OwnB W w v bs) (hx : RdB w x ms) (hb : W.heap.size ≤ w.heap.size) (hlen : bs.length + ms.length ≤ 1000000) (ty : TypeId) :
    ∃ v' w', (Builtin.append_ #[73, 73] ty #[v, x]).run Try.prog w = .ok v' w' ∧ OwnB W w' v' (bs ++ ms) ∧ w.grownBy w' v.ownBlock := by
  obtain ⟨i, hi, hz0, hz1, hz2⟩ := info_parts u8Info
  rcases hown with ⟨rfl, rfl⟩ | ⟨g, cap, cur, fz, rfl, hg, hh, ⟨h1, h2, h3⟩, hf, hc⟩
  · obtain ⟨v', w', a1, a2, a3⟩ := run_append_src (P := Try.prog) w w.heap.size 73 ty 5 _ 1 1 Try.underlying73 u8Info rfl (by omega) (.slice none 0 0) 0 [] (World.ownsRow_nil _ _ _ _) x ms.length (ptb ms) hx.src (by simp only [maxLen]; simp at hlen; omega) (by simp at hlen; omega) (Nat.le_refl _)
    exact ⟨v', w', a1, OwnB.of_row (base := w.heap.size) (n := 0 + ms.length) (by simp) (Nat.le_trans hb a3.size) hb (by rw [List.nil_append] at a2; exact a2), a3⟩
  · obtain ⟨hl, ho, ao, c, rfl, hnone, hcx⟩ := hx.src
    have key : ∀ (a : Addr), ao = some a → ∃ v' w', (Builtin.append_ #[73, 73] ty #[.slice (some ⟨g, 0, none⟩) bs.length cap, .slice (some a) ms.length c]).run Try.prog w = .ok v' w' ∧ OwnB W w' v' (bs ++ ms) ∧ w.grownBy w' (some g) := by
      intro a ha
      by_cases hroom : bs.length + ms.length ≤ cap
      · have hsome : ∀ j, j < cap → (w.cell? ⟨g, j, none⟩).isSome = true := fun j hj => by
          unfold World.cell?
          simp only [hh]
          simp [h3, hj]
        have hrun := run_append_room_cells (P := Try.prog) w 73 ty 5 i Try.underlying73 hi g 0 bs.length cap a ms.length c (ptb ms) (by rw [ptb_length, hz1]; omega) (hcx a ha) ho hroom
          (fun j hj => by rw [ptb_length] at hj; rw [hz1, Nat.zero_add]; exact hsome _ (by omega)) (fun j hj => by rw [ptb_length] at hj; rw [hz1, Nat.zero_add]; exact hf _ (by omega))
        rw [hz1, Nat.zero_add, Nat.mul_one] at hrun
        obtain ⟨cur', q1, q2⟩ := setCells_block g (ptb ms) bs.length w cur _ fz hh
        refine ⟨_, _, hrun, .inr ⟨g, cap, cur', fz, by rw [List.length_append], hg, q2, ⟨by rw [List.length_append]; exact hroom, h2, by omega⟩, fun k hk => by rw [World.frozen?_setCells]; exact hf k hk, fun j hj => ?_⟩, ?_⟩
        · rw [List.length_append] at hj
          by_cases hjb : j < bs.length
          · rw [World.cell?_setCells_out _ _ _ _ _ (fun _ _ => .inl hjb), hc j hjb, List.getElem_append_left hjb]
          · have hjm : j - bs.length < (ptb ms).length := by rw [ptb_length]; omega
            have := World.cell?_setCells_in g (ptb ms) bs.length w (fun t ht => by rw [ptb_length] at ht; exact hsome _ (by omega)) (j - bs.length) hjm
            rw [show bs.length + (j - bs.length) = j by omega] at this
            rw [this, List.getElem_append_right (by omega)]
            have e := ptb_get (List.getElem?_eq_getElem hjm)
            obtain ⟨_, e⟩ := e
            rw [e]
        · have hbel := setCells_below g g (Nat.le_refl _) (ptb ms) bs.length w w (Below.refl _ _)
          exact ⟨hbel.os, hbel.tape, hbel.output, hbel.size, fun k hk hne => setCells_other g _ _ _ _ (fun e => hne (by rw [e]))⟩
      · obtain ⟨v', w', a1, a2, a3⟩ := run_append_arg_grows (P := Try.prog) w 73 ty 5 i _ 1 1 Try.underlying73 hi hz0 hz1 hz2 rfl (by omega) ⟨g, 0, none⟩ bs.length cap (ptb bs) (by rw [ptb_length]; omega) (fun j u hj => by
            obtain ⟨hjl, rfl⟩ := ptb_get hj
            rw [addr_plain, Nat.zero_add]
            exact hc j hjl) a ms.length c (ptb ms) (by rw [ptb_length]; omega) (hcx a ha) (by omega) (by simp only [maxLen]; omega) (by omega)
        refine ⟨v', w', a1, OwnB.of_row (base := w.heap.size) (n := bs.length + ms.length) (by simp) (Nat.le_trans hb a3.size) hb (by rw [ptb_append]; exact a2), ⟨a3.os, a3.tape, a3.output, a3.size, fun k hk _ => a3.block k hk (by simp)⟩⟩
    cases ao with
    | some a => exact key a rfl
    | none =>
      obtain ⟨hm, hc0⟩ := hnone rfl
      obtain rfl : ms = [] := List.eq_nil_of_length_eq_zero hm
      subst hc0
      have hrun : (Builtin.append_ #[73, 73] ty #[.slice (some ⟨g, 0, none⟩) bs.length cap, .slice none 0 0]).run Try.prog w = .ok (.slice (some ⟨g, 0, none⟩) bs.length cap) w := by
        simp [Builtin.append_, run_underlying Try.underlying73, sizeOf, typeInfo, hi, Builtin.lenOf, Builtin.firstCells, h1, storeCells]
      exact ⟨_, _, hrun, by rw [List.append_nil]; exact .inr ⟨g, cap, cur, fz, rfl, hg, hh, ⟨h1, h2, h3⟩, hf, hc⟩, World.grownBy.refl _ _⟩
theorem wpList_append_B {w : World} {ops : Array Oper} {rest : List Oper} {o : Oper} {a : Act} {Q : Exit → Act → World → Prop} (hgd : o.guard = none) (s x : Operand)
    (ho : o.op = .call { callee := .builtin .append, args := #[s, x], argTypes := #[73, 73] }) (W : World) (bs ms : List Nat)
    (hown : OwnB W w (a.eval s) bs) (hx : RdB w (a.eval x) ms) (hb : Below W.heap.size W w) (hlen : bs.length + ms.length ≤ 1000000)
    (h : ∀ v' w', OwnB W w' v' (bs ++ ms) → Below W.heap.size W w' → w.grownBy w' (a.eval s).ownBlock → wpList Try.prog ops Q rest (a.put o.dst v') w') : wpList Try.prog ops Q (o :: rest) a w := by
  refine wpList_plain hgd fun K hK => ?_
  obtain ⟨v', w', hrun, r1, r2⟩ := run_append_B W w _ _ bs ms hown hx hb.size hlen o.type
  unfold Oper.wp
  simp [execOp, ho, resolve, invoke, builtin, hrun, Result.andThen]
  exact hK _ _ (h v' w' r1 (hb.grown r2 hb.size fun k hk => (hown.block k hk).1) r2)
/-- bytes are handed back -/
def RetB (W : World) (bs : List Nat) (e : Ending) (w' : World) : Prop := ∃ v, e = .returned v ∧ RdB w' v bs ∧ Below W.heap.size W w'
theorem RetB.mk {W w' : World} {bs : List Nat} {v : Value} (h : RdB w' v bs) (hb : Below W.heap.size W w') : RetB W bs (.returned v) w' := ⟨v, rfl, h, hb⟩

theorem natCast_xor_u64 (a b : Nat) (ha : a < 2 ^ 64) (hb : b < 2 ^ 64) : bits .xor .u64 (a : Int) (b : Int) = ((a ^^^ b : Nat) : Int) := by
  rw [bits_xor_u64_nat _ _ (by omega) (by omega)]

theorem intOf_u {x y : Int} (h : x = y) : intOf (.int .u64 x) = y := h
set_option maxRecDepth 100000 in
set_option maxHeartbeats 2000000 in
theorem rBytes_any (u : Nat) (w : World) (hu : u < 2 ^ 64) : Calls Try.prog 103 #[.int .u64 (u : Nat)] w fun e w' => RetB w (Pk.leb u) e w' := by
  have HU := Lib.hid hu
  clear hu
  go_enter Try.func103, Try.ntmps103
  go_wp2_with fail
  go_loopw [0, 3] (fun vu vo wr => ∃ (n c : Nat) (acc : List Nat), vu = .int .u64 (c : Nat) ∧ OwnB w wr vo acc ∧ acc ++ Pk.lebF n c = Pk.leb u ∧ c < 128 ^ (n + 1) ∧ c < 2 ^ 64 ∧ Below w.heap.size w wr) (fun vu _ _ => (intOf vu).toNat)
  case atStart => exact ⟨9, u, [], rfl, OwnB.lit (Nat.le_refl _) rfl, rfl, Nat.lt_of_lt_of_le HU.out (by decide), HU.out, (by repeat (first | exact Below.refl _ _ | assumption | (refine Below.drew ?_) | (refine below_drewN' ?_ _) | (refine below_alloc' ?_ _)))⟩
  case round =>
    obtain ⟨n, c, acc, rfl, hown, hacc, hc, hc64, hb⟩ := hrel
    have HB := Lib.hid hb
    have HO := Lib.hid hown
    have HL := Lib.hid (show acc.length + 1 ≤ 1000000 by
      have h1 := congrArg List.length hacc
      rw [List.length_append] at h1
      have h2 := Pk.leb_length u
      omega)
    clear hb hown
    by_cases h128 : 128 ≤ c
    · have h3 : (c : Int) ≥ 128 := by omega
      obtain ⟨m, rfl⟩ : ∃ m, n = m + 1 := ⟨n - 1, by
        cases n with
        | zero => simp at hc; omega
        | succ n => omega⟩
      rw [Pk.lebF_big _ _ h128] at hacc
      have hw1 : IntKind.u8.wrap ((c : Int) % 128) = (c : Int) % 128 := by unfold IntKind.wrap; simp [IntKind.bits, IntKind.signed]; omega
      have hw2 : IntKind.u8.wrap ((c : Int) % 128 + 128) = (c : Int) % 128 + 128 := by unfold IntKind.wrap; simp [IntKind.bits, IntKind.signed]; omega
      have HQ := Lib.hid (show IntKind.u64.wrap ((c : Int) / 128) = ((c / 128 : Nat) : Int) by unfold IntKind.wrap; simp [IntKind.bits, IntKind.signed]; omega)
      have HA := Lib.hid (show (acc ++ [c % 128 + 128]) ++ Pk.lebF m (c / 128) = Pk.leb u by rw [← hacc]; simp)
      have HC := Lib.hid (show c / 128 < 128 ^ (m + 1) ∧ c / 128 < 2 ^ 64 ∧ c / 128 < c from ⟨by rw [Nat.div_lt_iff_lt_mul (by omega), ← Nat.pow_succ]; exact hc, by omega, by omega⟩)
      clear hacc hc hc64
      go_wp2_with ((at_builtin; refine wpList_append_B rfl (.tmp 7) (.tmp 12) rfl w acc [c % 128 + 128] ?_ ?_ ?_ ?_ ?_))
      · exact HO.out.alloc _
      · exact RdB.one (Nat.le_refl _) (by simp [maxLen]) (by simp [go_sem])
      · have h := HB.out; exact (by repeat (first | exact Below.refl _ _ | assumption | (refine Below.drew ?_) | (refine below_drewN' ?_ _) | (refine below_alloc' ?_ _)))
      · have := HL.out; simp; omega
      intro v4 w4 hown4 hb4 _
      have HO4 := Lib.hid hown4
      have HB4 := Lib.hid hb4
      clear hown4 hb4
      go_wp2_with fail
      go_roundw
      case rel => exact ⟨m, c / 128, acc ++ [c % 128 + 128], by rw [HQ.out], HO4.out, HA.out, HC.out.1, HC.out.2.1, HB4.out⟩
      case measure => rw [intOf_u HQ.out, intOf_u rfl]; have := HC.out.2.2; omega
    · have h3 : ¬ (c : Int) ≥ 128 := by omega
      rw [Pk.lebF_small _ _ (by omega)] at hacc
      have hw1 : IntKind.u8.wrap (c : Int) = (c : Int) := by unfold IntKind.wrap; simp [IntKind.bits, IntKind.signed]; omega
      have HA := Lib.hid hacc
      clear hacc hc hc64
      go_wp2_with ((at_builtin; refine wpList_append_B rfl (.tmp 16) (.tmp 19) rfl w acc [c] ?_ ?_ ?_ ?_ ?_))
      · exact HO.out.alloc _
      · exact RdB.one (Nat.le_refl _) (by simp [maxLen]) (by simp [go_sem])
      · have h := HB.out; exact (by repeat (first | exact Below.refl _ _ | assumption | (refine Below.drew ?_) | (refine below_drewN' ?_ _) | (refine below_alloc' ?_ _)))
      · have := HL.out; simp; omega
      intro v4 w4 hown4 hb4 _
      rw [HA.out] at hown4
      have HO4 := Lib.hid hown4
      have HB4 := Lib.hid hb4
      clear hown4 hb4
      go_wp2_with fail
      go_ret
      exact RetB.mk HO4.out.rd HB4.out

set_option maxRecDepth 8000 in
set_option maxHeartbeats 2000000 in
theorem rPoint_any (p q : List Nat) (vp vq : Value) (w : World) (hp : RdU w vp (pti p)) (hq : RdU w vq (pti q)) (hl : p.length = q.length) (h40 : p.length ≤ 40) (op : ∀ x ∈ p, x < 2 ^ 64) (oq : ∀ x ∈ q, x < 2 ^ 64) :
    Calls Try.prog 104 #[vp, vq] w fun e w' => RetB w (Pk.lebP p q) e w' := by
  obtain ⟨A, cp, rfl, ga0⟩ := RdU.point hp
  obtain ⟨A2, cq, rfl, gb0⟩ := RdU.point hq
  have HD := Lib.hid (And.intro hl (And.intro h40 (And.intro op oq)))
  have HG := Lib.hid (And.intro ga0 gb0)
  clear hp hq hl h40 op oq ga0 gb0
  go_enter Try.func104, Try.ntmps104
  go_wp2_with fail
  go_loopw [5, 6] (fun vo i wr => ∃ (j : Nat), j ≤ p.length ∧ i = .int .i64 j ∧ OwnB w wr vo (Pk.lebP (p.take j) (q.take j)) ∧ Below w.heap.size w wr) (fun _ i _ => p.length - (intOf i).toNat)
  case atStart => exact ⟨0, Nat.zero_le _, rfl, OwnB.lit (Nat.le_refl _) rfl, (by repeat (first | exact Below.refl _ _ | assumption | (refine Below.drew ?_) | (refine below_drewN' ?_ _) | (refine below_alloc' ?_ _)))⟩
  case round =>
    obtain ⟨j, hj, rfl, hown, hb⟩ := hrel
    have HBw := Lib.hid hb
    have HO := Lib.hid hown
    clear hb hown
    by_cases hlt : j < p.length
    · have hlt2 : j < q.length := by have := HD.out.1; omega
      have h3 : (j : Int) < p.length := by omega
      have h4 : (j : Int) < q.length := by omega
      have h5 : (0 : Int) ≤ (j : Int) := by omega
      obtain ⟨bk, ofs, rfl, ga⟩ := HG.out.1 (by omega)
      obtain ⟨bq, oq, rfl, gb⟩ := HG.out.2 (by omega)
      have k0 := Below.keeps HBw.out _ _ (ga j hlt)
      have m0 := Below.keeps HBw.out _ _ (gb j hlt2)
      have hxor := natCast_xor_u64 p[j] q[j] (HD.out.2.2.1 _ (List.getElem_mem hlt)) (HD.out.2.2.2 _ (List.getElem_mem hlt2))
      have HX := Lib.hid (Nat.xor_lt_two_pow (HD.out.2.2.1 _ (List.getElem_mem hlt)) (HD.out.2.2.2 _ (List.getElem_mem hlt2)))
      have HB := Lib.hid (fun (u : Nat) (w' : World) (h : u < 2 ^ 64) => rBytes_any u w' h)
      have HT := Lib.hid (Pk.lebP_take p q j hlt hlt2)
      have HL := Lib.hid (show (Pk.lebP (p.take j) (q.take j)).length + (Pk.leb (p[j] ^^^ q[j])).length ≤ 1000000 by
        have h1 := Pk.lebP_length (p.take j) (q.take j)
        have h2 := Pk.leb_length (p[j] ^^^ q[j])
        have h3 : (p.take j).length ≤ p.length := by rw [List.length_take]; omega
        have := HD.out.2.1
        omega)
      have HW := Lib.hid (show wrap64 ((j : Int) + 1) = ((j + 1 : Nat) : Int) by have := HD.out.2.1; unfold wrap64; omega)
      clear ga gb
      go_wp2_with fail
      refine wp_region_vals 11 [fun v _ => v = u5,
        fun v _ => v = .slice (some ⟨bk, ofs, none⟩) p.length cp,
        fun v _ => v = .int .i64 (j : Nat),
        fun v _ => v = .pointer (some ⟨bk, ofs + j, none⟩),
        fun v _ => v = .int .u64 (p[j] : Nat),
        fun v _ => v = .slice (some ⟨bq, oq, none⟩) q.length cq,
        fun v _ => v = .int .i64 (j : Nat),
        fun v _ => v = .pointer (some ⟨bq, oq + j, none⟩),
        fun v _ => v = .int .u64 (q[j] : Nat),
        fun v _ => v = .int .u64 ((p[j] ^^^ q[j] : Nat) : Int),
        fun v9 w9 => RdB w9 v9 (Pk.leb (p[j] ^^^ q[j]))]
        (by kernel_rfl) (by kernel_rfl) (by kernel_rfl) (by kernel_rfl) ?_ ?_ ?_
      · intro V hV v w1 w2 h hb
        simp only [List.mem_cons, List.not_mem_nil, or_false] at hV
        rcases hV with rfl | rfl | rfl | rfl | rfl | rfl | rfl | rfl | rfl | rfl | rfl
        all_goals first | exact h | (exact RdB.below h hb)
      · intro i o hi ho
        match i, hi with
        | 0, _ =>
        obtain rfl := Option.some.inj ho
        intro a1 w1 K hk hK
        have e5 : a1.tmps.getD 5 undef = u5 := hk.same 5 (by simp)
        simp [Region.wanted, Oper.wp, Act.eval, go_sem, e5, h3, h4, h5, k0, m0, hxor]
        exact hK _ _ (Below.refl _ _) rfl
        | 1, _ =>
        obtain rfl := Option.some.inj ho
        intro a1 w1 K hk hK
        have e0 : a1.tmps.getD 0 undef = .slice (some ⟨bk, ofs, none⟩) p.length cp := hk.same 0 (by simp)
        simp [Region.wanted, Oper.wp, Act.eval, go_sem, e0, h3, h4, h5, k0, m0, hxor]
        exact hK _ _ (Below.refl _ _) rfl
        | 2, _ =>
        obtain rfl := Option.some.inj ho
        intro a1 w1 K hk hK
        have e6 : a1.tmps.getD 6 undef = .int .i64 (j : Nat) := hk.same 6 (by simp)
        simp [Region.wanted, Oper.wp, Act.eval, go_sem, e6, h3, h4, h5, k0, m0, hxor]
        exact hK _ _ (Below.refl _ _) rfl
        | 3, _ =>
        obtain rfl := Option.some.inj ho
        intro a1 w1 K hk hK
        have d15 : a1.tmps.getD 15 undef = .slice (some ⟨bk, ofs, none⟩) p.length cp := hk.deps ⟨1, .data⟩ (by simp) rfl _ _ rfl rfl
        have d16 : a1.tmps.getD 16 undef = .int .i64 (j : Nat) := hk.deps ⟨2, .data⟩ (by simp) rfl _ _ rfl rfl
        simp [Region.wanted, Oper.wp, Act.eval, go_sem, d15, d16, h3, h4, h5, k0, m0, hxor]
        exact hK _ _ (Below.refl _ _) rfl
        | 4, _ =>
        obtain rfl := Option.some.inj ho
        intro a1 w1 K hk hK
        have d17 : a1.tmps.getD 17 undef = .pointer (some ⟨bk, ofs + j, none⟩) := hk.deps ⟨3, .data⟩ (by simp) rfl _ _ rfl rfl
        have c0 : w1.cell? ⟨bk, ofs + j, none⟩ = some (.int .u64 (p[j] : Nat)) := Below.keeps hk.ext _ _ (by simp [go_sem, h3, h4, h5, k0, m0, hxor])
        have c1 : w1.cell? ⟨bq, oq + j, none⟩ = some (.int .u64 (q[j] : Nat)) := Below.keeps hk.ext _ _ (by simp [go_sem, h3, h4, h5, k0, m0, hxor])
        simp [Region.wanted, Oper.wp, Act.eval, go_sem, d17, c0, c1, h3, h4, h5, k0, m0, hxor]
        exact hK _ _ (Below.refl _ _) rfl
        | 5, _ =>
        obtain rfl := Option.some.inj ho
        intro a1 w1 K hk hK
        have e1 : a1.tmps.getD 1 undef = .slice (some ⟨bq, oq, none⟩) q.length cq := hk.same 1 (by simp)
        simp [Region.wanted, Oper.wp, Act.eval, go_sem, e1, h3, h4, h5, k0, m0, hxor]
        exact hK _ _ (Below.refl _ _) rfl
        | 6, _ =>
        obtain rfl := Option.some.inj ho
        intro a1 w1 K hk hK
        have e6 : a1.tmps.getD 6 undef = .int .i64 (j : Nat) := hk.same 6 (by simp)
        simp [Region.wanted, Oper.wp, Act.eval, go_sem, e6, h3, h4, h5, k0, m0, hxor]
        exact hK _ _ (Below.refl _ _) rfl
        | 7, _ =>
        obtain rfl := Option.some.inj ho
        intro a1 w1 K hk hK
        have d19 : a1.tmps.getD 19 undef = .slice (some ⟨bq, oq, none⟩) q.length cq := hk.deps ⟨5, .data⟩ (by simp) rfl _ _ rfl rfl
        have d20 : a1.tmps.getD 20 undef = .int .i64 (j : Nat) := hk.deps ⟨6, .data⟩ (by simp) rfl _ _ rfl rfl
        simp [Region.wanted, Oper.wp, Act.eval, go_sem, d19, d20, h3, h4, h5, k0, m0, hxor]
        exact hK _ _ (Below.refl _ _) rfl
        | 8, _ =>
        obtain rfl := Option.some.inj ho
        intro a1 w1 K hk hK
        have d21 : a1.tmps.getD 21 undef = .pointer (some ⟨bq, oq + j, none⟩) := hk.deps ⟨7, .data⟩ (by simp) rfl _ _ rfl rfl
        have c0 : w1.cell? ⟨bk, ofs + j, none⟩ = some (.int .u64 (p[j] : Nat)) := Below.keeps hk.ext _ _ (by simp [go_sem, h3, h4, h5, k0, m0, hxor])
        have c1 : w1.cell? ⟨bq, oq + j, none⟩ = some (.int .u64 (q[j] : Nat)) := Below.keeps hk.ext _ _ (by simp [go_sem, h3, h4, h5, k0, m0, hxor])
        simp [Region.wanted, Oper.wp, Act.eval, go_sem, d21, c0, c1, h3, h4, h5, k0, m0, hxor]
        exact hK _ _ (Below.refl _ _) rfl
        | 9, _ =>
        obtain rfl := Option.some.inj ho
        intro a1 w1 K hk hK
        have d18 : a1.tmps.getD 18 undef = .int .u64 (p[j] : Nat) := hk.deps ⟨4, .data⟩ (by simp) rfl _ _ rfl rfl
        have d22 : a1.tmps.getD 22 undef = .int .u64 (q[j] : Nat) := hk.deps ⟨8, .data⟩ (by simp) rfl _ _ rfl rfl
        simp [Region.wanted, Oper.wp, Act.eval, go_sem, d18, d22, h3, h4, h5, k0, m0, hxor]
        exact hK _ _ (Below.refl _ _) rfl
        | 10, _ =>
        obtain rfl := Option.some.inj ho
        intro a1 w1 K hk hK
        have d23 : a1.tmps.getD 23 undef = .int .u64 ((p[j] ^^^ q[j] : Nat) : Int) := hk.deps ⟨9, .data⟩ (by simp) rfl _ _ rfl rfl
        simp [Region.wanted, Oper.wp, Act.eval, go_sem, d23, h3, h4, h5, k0, m0, hxor]
        refine (HB.out _ _ HX.out).mono ?_
        rintro e w2 ⟨v2, rfl, hr2, hb2⟩
        exact hK _ _ hb2 hr2
      · intro vs w3 hl hb3 hv
        match vs, hl with
        | [v0, v1, v2, v3, v4, v5, v6, v7, v8, v9, v10], _ =>
        obtain rfl : v0 = u5 := hv 0 (by omega)
        obtain rfl : v1 = .slice (some ⟨bk, ofs, none⟩) p.length cp := hv 1 (by omega)
        obtain rfl : v2 = .int .i64 (j : Nat) := hv 2 (by omega)
        obtain rfl : v3 = .pointer (some ⟨bk, ofs + j, none⟩) := hv 3 (by omega)
        obtain rfl : v4 = .int .u64 (p[j] : Nat) := hv 4 (by omega)
        obtain rfl : v5 = .slice (some ⟨bq, oq, none⟩) q.length cq := hv 5 (by omega)
        obtain rfl : v6 = .int .i64 (j : Nat) := hv 6 (by omega)
        obtain rfl : v7 = .pointer (some ⟨bq, oq + j, none⟩) := hv 7 (by omega)
        obtain rfl : v8 = .int .u64 (q[j] : Nat) := hv 8 (by omega)
        obtain rfl : v9 = .int .u64 ((p[j] ^^^ q[j] : Nat) : Int) := hv 9 (by omega)
        have q10 : RdB w3 v10 (Pk.leb (p[j] ^^^ q[j])) := hv 10 (by omega)
        clear hv
        simp only [putAll, List.take_succ_cons, List.take_zero, List.drop_succ_cons, List.drop_zero, Act.put, List.setIfInBounds_toArray, List.set_cons_succ, List.set_cons_zero]
        have HB3 := Lib.hid (HBw.out.trans (hb3.mono HBw.out.size))
        have HO3 := Lib.hid (HO.out.below hb3)
        clear hb3
        refine wpList_append_B rfl (.tmp 14) (.tmp 24) rfl w (Pk.lebP (p.take j) (q.take j)) (Pk.leb (p[j] ^^^ q[j])) HO3.out q10 HB3.out HL.out ?_
        intro v40 w4 hown4 hb4 _
        rw [← HT.out] at hown4
        have HO4 := Lib.hid hown4
        have HB4 := Lib.hid hb4
        clear hown4 hb4 k0 m0
        go_wp2_with fail
        go_roundw
        case rel => exact ⟨j + 1, by omega, by rw [HW.out], HO4.out, HB4.out⟩
        case measure => rw [intOf_of' HW.out, intOf_of' rfl]; omega
    · have HO2 := Lib.hid (show OwnB w wr u5 (Pk.lebP p q) by have := HO.out; rwa [List.take_of_length_le (by omega), List.take_of_length_le (by have := HD.out.1; omega)] at this)
      go_wp2_with fail
      go_ret
      exact RetB.mk HO2.out.rd HBw.out
end Go.Proofs.Ytlmgabhdeeehmaa
