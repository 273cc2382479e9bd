/-
  The walk of edit.pairs.
-/
import Derived.Test.YtmeffkgdmimpdaaThenG
import Derived.ScopeJumps
import Derived.WalkMore
namespace Go.Proofs.Ytmeffkgdmimpdaa
open Go.RowKit
set_option linter.unusedVariables false
set_option linter.unusedSimpArgs false

theorem Bdrew {W w : World} (h : Below W.heap.size W w) (n : Nat) : Below W.heap.size W (w.drewN n) := h.trans ((drewN_below w n).mono h.size)
theorem wp_scope_jumps2 {P : Program} {a : Act} {w : World} {Q : Exit → Act → World → Prop} {c rest : Code} (l : Nat) (J : Act → World → Prop) (μ : Act → World → Nat) (hf : findLabel c l = some (Code.skip.seq rest))
    (pass : ∀ a w, J a w → rest.wp P (Exit.jump l (fun a' w' => J a' w' ∧ μ a' w' < μ a w) Q) a w)
    (first : ∀ Q', (∀ a w, J a w → rest.wp P Q' a w) → c.wp P Q' a w) : (Code.scope c).wp P Q a w :=
  wp_scope_jumps l J μ hf (first _ fun a w hJ => wp_mono (pass a w hJ) (by
    intro e a' w' h
    cases e
    case goto l' => exact ⟨h.1, h.2.1⟩
    all_goals exact h)) (fun a w hJ => wp_seq (wp_skip (pass a w hJ)))
theorem enters_func {P : Program} {f : FuncId} {fn : Func} (hf : P.funcs[f]? = some fn) (hname : (fn.name == "runtime.NumGoroutine") = false) (hb : fn.body.isSome = true) (args : Array Value) (w : World) :
    (callFunc f args).run P w = .ok (.enter f args) w := by
  have h1 : fn.name ≠ "runtime.NumGoroutine" := by simpa using hname
  obtain ⟨c, hc⟩ := Option.isSome_iff_exists.1 hb
  simp [callFunc, hf, h1, hc]
def lenOf : Value → Nat | .slice _ n _ => n | _ => 0

/-- the list without its first -/
theorem tailC {W : World} {b o c : Nat} {x : Ch} {l : List Ch} (h : RdC W (.slice (some ⟨b, o, none⟩) (l.length + 1) c) (x :: l) ∧ CapOk (.slice (some ⟨b, o, none⟩) (l.length + 1) c)) (hc : CapOk (.slice (some ⟨b, o, none⟩) (l.length + 1) c)) :
    RdC W (.slice (if c = 1 then some (⟨b, o, none⟩ : Addr) else some ⟨b, o + 5, none⟩) l.length (c - 1)) l ∧ CapOk (.slice (if c = 1 then some (⟨b, o, none⟩ : Addr) else some ⟨b, o + 5, none⟩) l.length (c - 1)) := by
  obtain ⟨A9, n9, c9, e9, h9, h10, h11⟩ := hc
  injection e9 with e1 e2 e3
  subst e1 e2 e3
  obtain ⟨⟨A, c', e, hx⟩, _⟩ := h
  injection e with e1 e2 e3
  subst e1 e3
  obtain ⟨b', o', ha, hch⟩ := hx (by simp)
  injection ha with ha
  injection ha with ha1 ha2
  subst ha1 ha2
  refine ⟨⟨_, _, rfl, fun hp => ⟨b, o + 5, by rw [if_neg (by omega)], fun j hj => ?_⟩⟩, _, _, _, rfl, by omega, by omega, fun h => ?_⟩
  · have := hch (j + 1) (by simpa using hj)
    rw [show o + 5 + j * 5 = o + (j + 1) * 5 by omega]
    simpa using this
  · split
    · exact ⟨_, _, rfl⟩
    · exact ⟨_, _, rfl⟩

/-- at the label: so much is done -/
structure PairsAt (W : World) (T : Option Ch × Option Ch → Bool) (Inv : List (Option Ch × Option Ch) → World → Prop) (a b : List Ch) (wa wb : Value) (n : Nat) (la lb : List Ch) (d : List (Option Ch × Option Ch)) (w' : World) : Prop where
  ra : RdC W wa la ∧ CapOk wa
  rb : RdC W wb lb ∧ CapOk wb
  le : la.length + lb.length ≤ n
  eq' : pairs a b = d ++ pairsL n la lb
  all : d.all T = true
  inv : Inv d w'
  bel : Below W.heap.size W w'
  sa : ∀ x ∈ la, x ∈ a
  sb : ∀ y ∈ lb, y ∈ b
  len : d.length + (la.length + lb.length) ≤ a.length + b.length

section
variable {W w' : World} {T : Option Ch × Option Ch → Bool} {Inv : List (Option Ch × Option Ch) → World → Prop} {a b ta tb : List Ch} {x y : Ch} {wa wb : Value} {n : Nat} {d : List (Option Ch × Option Ch)}
theorem PairsAt.done (h : PairsAt W T Inv a b wa wb n [] [] d w') : pairs a b = d := by
  have := h.eq'
  cases n <;> simpa [pairsL] using this
theorem PairsAt.onlyA (h : PairsAt W T Inv a b wa wb n (x :: ta) [] d w') : ∃ m, ta.length + 0 ≤ m ∧ pairs a b = d ++ (some x, none) :: pairsL m ta [] := by
  have := h.eq'
  have hle := h.le
  cases n with
  | zero => simp at hle
  | succ m => exact ⟨m, by simp at hle; omega, this⟩
theorem PairsAt.onlyB (h : PairsAt W T Inv a b wa wb n [] (y :: tb) d w') : ∃ m, 0 + tb.length ≤ m ∧ pairs a b = d ++ (none, some y) :: pairsL m [] tb := by
  have := h.eq'
  have hle := h.le
  cases n with
  | zero => simp at hle
  | succ m => exact ⟨m, by simp at hle; omega, this⟩
theorem PairsAt.lt (h : PairsAt W T Inv a b wa wb n (x :: ta) (y :: tb) d w') (hz : Zb.cmp x.p y.p < 0) : ∃ m, ta.length + (tb.length + 1) ≤ m ∧ pairs a b = d ++ (some x, none) :: pairsL m ta (y :: tb) := by
  have := h.eq'
  have hle := h.le
  cases n with
  | zero => simp at hle
  | succ m => exact ⟨m, by simp at hle; omega, by rw [this, pairsL, if_pos hz]⟩
theorem PairsAt.gt (h : PairsAt W T Inv a b wa wb n (x :: ta) (y :: tb) d w') (hz : ¬ Zb.cmp x.p y.p < 0) (hz2 : 0 < Zb.cmp x.p y.p) : ∃ m, ta.length + 1 + tb.length ≤ m ∧ pairs a b = d ++ (none, some y) :: pairsL m (x :: ta) tb := by
  have := h.eq'
  have hle := h.le
  cases n with
  | zero => simp at hle
  | succ m => exact ⟨m, by simp at hle; omega, by rw [this, pairsL, if_neg hz, if_pos hz2]⟩
theorem PairsAt.eq (h : PairsAt W T Inv a b wa wb n (x :: ta) (y :: tb) d w') (hz : ¬ Zb.cmp x.p y.p < 0) (hz2 : ¬ 0 < Zb.cmp x.p y.p) : ∃ m, ta.length + tb.length ≤ m ∧ pairs a b = d ++ (some x, some y) :: pairsL m ta tb := by
  have := h.eq'
  have hle := h.le
  cases n with
  | zero => simp at hle
  | succ m => exact ⟨m, by simp at hle; omega, by rw [this, pairsL, if_neg hz, if_neg hz2]⟩
end
/-- what pairs hands back -/
def PairsP (W : World) (T : Option Ch × Option Ch → Bool) (Inv : List (Option Ch × Option Ch) → World → Prop) (a b : List Ch) (e : Ending) (w' : World) : Prop :=
  e = .returned (.bool ((pairs a b).all T)) ∧ ((pairs a b).all T = true → Inv (pairs a b) w') ∧ Below W.heap.size W w'

set_option maxRecDepth 100000 in
set_option maxHeartbeats 4000000 in
theorem pairs_any (W w : World) (f : FuncId) (cap : Array Value) (T : Option Ch × Option Ch → Bool) (Inv : List (Option Ch × Option Ch) → World → Prop) (a b : List Ch) (va vb : Value) (k : Nat)
    (ra : Rt k a) (rb : Rt k b) (hk : 1 ≤ k ∧ k ≤ 16) (hn : a.length + b.length ≤ 1000) (HE : ∀ args w, (callFunc f args).run Try.prog w = .ok (.enter f args) w)
    (HT0 : ∀ d p px py w', Inv d w' → Below W.heap.size W w' → PtrC w' px p.1 → PtrC w' py p.2 → (∀ x, p.1 = some x → x ∈ a) → (∀ y, p.2 = some y → y ∈ b) → d.length ≤ 1000 → p ≠ (none, none) →
      Calls Try.prog f (#[px, py] ++ cap) w' fun e w'' => e = .returned (.bool (T p)) ∧ (T p = true → Inv (d ++ [p]) w'') ∧ Below W.heap.size W w'')
    (HD0 : ∀ d w n, Inv d w → Inv d (w.drewN n)) (hInv : Inv [] w) (hbW : Below W.heap.size W w) (hra : RdC W va a ∧ CapOk va) (hrb : RdC W vb b ∧ CapOk vb) :
    Calls Try.prog 15 #[va, vb, .func (.func f) #[] cap] w fun e w' => PairsP W T Inv a b e w' := by
  have H0 := Lib.hid (show PairsAt W T Inv a b va vb (a.length + b.length) a b [] w from ⟨hra, hrb, Nat.le_refl _, rfl, rfl, hInv, hbW, fun _ h => h, fun _ h => h, by simp⟩)
  have HT := Lib.hid HT0
  have HDr := Lib.hid HD0
  have RA := Lib.hid ra
  have RB := Lib.hid rb
  have HK := Lib.hid (And.intro hk.1 (And.intro hk.2 hn))
  clear HT0 HD0 ra rb hk hn hInv hbW hra hrb
  go_enter Try.func15, Try.ntmps15
  go_wp2_with fail
  refine wp_scope_jumps2 0 (fun a' w' => ∃ (wa wb : Value) (n : Nat) (la lb : List Ch) (d : List (Option Ch × Option Ch)) (u7 u8 u9 u10 u11 u12 u13 u14 u15 u16 u17 u18 u19 u20 u21 u22 u23 u24 u25 u26 u27 u28 u29 u30 u31 u32 u33 u34 u35 u36 u37 u38 u39 u40 u41 u42 u43 u44 u45 u46 u47 u48 u49 u50 u51 u52 u53 u54 : Value), a' = { tmps := #[wa, wb, .func (.func f) #[] cap, undef, undef, undef, .bool false, u7, u8, u9, u10, u11, u12, u13, u14, u15, u16, u17, u18, u19, u20, u21, u22, u23, u24, u25, u26, u27, u28, u29, u30, u31, u32, u33, u34, u35, u36, u37, u38, u39, u40, u41, u42, u43, u44, u45, u46, u47, u48, u49, u50, u51, u52, u53, u54], defers := [] } ∧ PairsAt W T Inv a b wa wb n la lb d w') (fun a' _ => lenOf (a'.tmps.getD 0 undef) + lenOf (a'.tmps.getD 1 undef)) rfl ?_ ?_
  · rintro a' w' ⟨wa, wb, n, la, lb, d, u7, u8, u9, u10, u11, u12, u13, u14, u15, u16, u17, u18, u19, u20, u21, u22, u23, u24, u25, u26, u27, u28, u29, u30, u31, u32, u33, u34, u35, u36, u37, u38, u39, u40, u41, u42, u43, u44, u45, u46, u47, u48, u49, u50, u51, u52, u53, u54, rfl, hP⟩
    cases la with
    | nil =>
      cases lb with
      | nil =>
        have HP := Lib.hid hP
        obtain ⟨⟨Aa, ca, rfl, _⟩, _⟩ := hP.ra
        obtain ⟨⟨Ab, cb, rfl, _⟩, _⟩ := hP.rb
        clear hP
        go_wp2_with fail
        simp only [Exit.jump]
        go_ret
        have e := HP.out.done
        unfold PairsP
        rw [e]
        exact ⟨by rw [HP.out.all] <;> rfl, fun _ => HP.out.inv, HP.out.bel⟩
      | cons y tb =>
        have HP := Lib.hid hP
        obtain ⟨⟨Aa, ca, ea, ga⟩, hca⟩ := hP.ra
        obtain ⟨⟨Ab, cb, eb, gb⟩, hcb⟩ := hP.rb
        subst ea eb
        simp only [List.length_cons, List.length_nil] at *
        obtain ⟨bb, ob, rfl, hb⟩ := gb (by omega)
        have hbt := hb 0 (by simp)
        simp only [Nat.zero_mul, Nat.add_zero, List.getElem_cons_zero] at hbt
        have hbtw := hbt.keep (Below.keeps hP.bel)
        obtain ⟨w0, m0, hw0, _⟩ := hbtw
        have hlb : bb < w'.heap.size := World.block_lt_of_cell? w' _ m0
        have HBt := Lib.hid hbt
        have h1b : 1 ≤ cb := by obtain ⟨A9, n9, c9, e9, h9, _⟩ := hcb; injection e9 with _ e1 e2; omega
        obtain ⟨Ay, hAy⟩ : ∃ Ay, (if cb = 1 then some (⟨bb, ob, none⟩ : Addr) else some ⟨bb, ob + 5, none⟩) = Ay := ⟨_, rfl⟩
        have HRB := Lib.hid (show RdC W (.slice Ay tb.length (cb - 1)) tb ∧ CapOk (.slice Ay tb.length (cb - 1)) from hAy ▸ tailC HP.out.rb hcb)
        obtain ⟨m, hm, hpe⟩ := HP.out.onlyB
        have HS := Lib.hid (And.intro hm hpe)
        have HTell := Lib.hid (fun (w'' : World) (hi : Inv d w'') (hbe : Below W.heap.size W w'') => HT.out d (none, some y) (.pointer none) (.pointer (some ⟨bb, ob, none⟩)) w'' hi hbe rfl (HBt.out.keep (Below.keeps hbe) |> fun h => ⟨_, _, rfl, h⟩) (fun z hz => by cases hz) (fun z hz => by injection hz with hz; subst hz; exact HP.out.sb _ (List.mem_cons_self ..)) (by have := HP.out.len; have := HK.out.2.2; simp at *; omega) (by simp))
        have sb1 : ((tb.length : Int) + 1 == 0) = false := by simp; omega
        have sb2 : (0 : Int) < (tb.length : Int) + 1 := by omega
        have sb3 : (1 : Int) ≤ (tb.length : Int) + 1 := by omega
        clear hP hca hcb hm hpe ga gb hb hbt hw0
        go_wp2_with fail
        go_quiet (fail)
        go_wp2_with fail
        have hbe := HP.out.bel
        refine (HTell.out _ (HDr.out _ _ _ HP.out.inv) (Bdrew hbe _)).mono ?_
        rintro e w5 ⟨rfl, hI5, hb5⟩
        have HI5 := Lib.hid (And.intro hI5 hb5)
        clear hI5 hb5 hbe
        generalize hT : T (none, some y) = t at *
        have HTt := Lib.hid hT
        clear hT
        cases t with
        | false =>
          go_wp2_with fail
          simp only [Exit.jump]
          go_ret
          have e : (pairs a b).all T = false := by rw [HS.out.2, List.all_append, List.all_cons, HTt.out]; simp
          exact ⟨by rw [e] <;> rfl, (fun h => by rw [e] at h; cases h), HI5.out.2⟩
        | true =>
          go_wp2_with fail
          go_step3
          refine ⟨rfl, ⟨_, _, m, [], tb, d ++ [(none, some y)], _, _, _, _, _, _, _, _, _, _, _, _, _, _, _, _, _, _, _, _, _, _, _, _, _, _, _, _, _, _, _, _, _, _, _, _, _, _, _, _, _, _, _, _, _, _, _, _, rfl, ⟨HP.out.ra, HRB.out, by (try simp only [List.length_cons, List.length_nil]); have := HS.out.1; omega, by rw [HS.out.2, List.append_assoc]; rfl, by rw [List.all_append, HP.out.all, List.all_cons, HTt.out]; rfl, HI5.out.1 (by first | rfl | trivial), HI5.out.2, fun z hz => HP.out.sa z (hz), fun z hz => HP.out.sb z (List.mem_cons_of_mem _ hz), by have := HP.out.len; (try simp only [List.length_cons, List.length_nil, List.length_append] at *); omega⟩⟩, ?_⟩
          simp [lenOf] <;> omega
    | cons x ta =>
      cases lb with
      | nil =>
        have HP := Lib.hid hP
        obtain ⟨⟨Aa, ca, ea, ga⟩, hca⟩ := hP.ra
        obtain ⟨⟨Ab, cb, eb, gb⟩, hcb⟩ := hP.rb
        subst ea eb
        simp only [List.length_cons, List.length_nil] at *
        obtain ⟨ba, oa, rfl, ha⟩ := ga (by omega)
        have hat := ha 0 (by simp)
        simp only [Nat.zero_mul, Nat.add_zero, List.getElem_cons_zero] at hat
        have hatw := hat.keep (Below.keeps hP.bel)
        obtain ⟨v0, k0, hv0, _⟩ := hatw
        have hla : ba < w'.heap.size := World.block_lt_of_cell? w' _ k0
        have HA := Lib.hid hat
        have h1a : 1 ≤ ca := by obtain ⟨A9, n9, c9, e9, h9, _⟩ := hca; injection e9 with _ e1 e2; omega
        obtain ⟨Ax, hAx⟩ : ∃ Ax, (if ca = 1 then some (⟨ba, oa, none⟩ : Addr) else some ⟨ba, oa + 5, none⟩) = Ax := ⟨_, rfl⟩
        have HRA := Lib.hid (show RdC W (.slice Ax ta.length (ca - 1)) ta ∧ CapOk (.slice Ax ta.length (ca - 1)) from hAx ▸ tailC HP.out.ra hca)
        obtain ⟨m, hm, hpe⟩ := HP.out.onlyA
        have HS := Lib.hid (And.intro hm hpe)
        have HTell := Lib.hid (fun (w'' : World) (hi : Inv d w'') (hbe : Below W.heap.size W w'') => HT.out d (some x, none) (.pointer (some ⟨ba, oa, none⟩)) (.pointer none) w'' hi hbe (HA.out.keep (Below.keeps hbe) |> fun h => ⟨_, _, rfl, h⟩) rfl (fun z hz => by injection hz with hz; subst hz; exact HP.out.sa _ (List.mem_cons_self ..)) (fun z hz => by cases hz) (by have := HP.out.len; have := HK.out.2.2; simp at *; omega) (by simp))
        have sa1 : ((ta.length : Int) + 1 == 0) = false := by simp; omega
        have sa2 : (0 : Int) < (ta.length : Int) + 1 := by omega
        have sa3 : (1 : Int) ≤ (ta.length : Int) + 1 := by omega
        clear hP hca hcb hm hpe ga gb ha hat hv0
        go_wp2_with fail
        go_quiet (fail)
        go_wp2_with fail
        have hbe := HP.out.bel
        refine (HTell.out _ (HDr.out _ _ _ HP.out.inv) (Bdrew hbe _)).mono ?_
        rintro e w5 ⟨rfl, hI5, hb5⟩
        have HI5 := Lib.hid (And.intro hI5 hb5)
        clear hI5 hb5 hbe
        generalize hT : T (some x, none) = t at *
        have HTt := Lib.hid hT
        clear hT
        cases t with
        | false =>
          go_wp2_with fail
          simp only [Exit.jump]
          go_ret
          have e : (pairs a b).all T = false := by rw [HS.out.2, List.all_append, List.all_cons, HTt.out]; simp
          exact ⟨by rw [e] <;> rfl, (fun h => by rw [e] at h; cases h), HI5.out.2⟩
        | true =>
          go_wp2_with fail
          go_step3
          refine ⟨rfl, ⟨_, _, m, ta, [], d ++ [(some x, none)], _, _, _, _, _, _, _, _, _, _, _, _, _, _, _, _, _, _, _, _, _, _, _, _, _, _, _, _, _, _, _, _, _, _, _, _, _, _, _, _, _, _, _, _, _, _, _, _, rfl, ⟨HRA.out, HP.out.rb, by (try simp only [List.length_cons, List.length_nil]); have := HS.out.1; omega, by rw [HS.out.2, List.append_assoc]; rfl, by rw [List.all_append, HP.out.all, List.all_cons, HTt.out]; rfl, HI5.out.1 (by first | rfl | trivial), HI5.out.2, fun z hz => HP.out.sa z (List.mem_cons_of_mem _ hz), fun z hz => HP.out.sb z (hz), by have := HP.out.len; (try simp only [List.length_cons, List.length_nil, List.length_append] at *); omega⟩⟩, ?_⟩
          simp [lenOf] <;> omega
      | cons y tb =>
        by_cases hz : Zb.cmp x.p y.p < 0
        · skip
          have HP := Lib.hid hP
          obtain ⟨⟨Aa, ca, ea, ga⟩, hca⟩ := hP.ra
          obtain ⟨⟨Ab, cb, eb, gb⟩, hcb⟩ := hP.rb
          subst ea eb
          simp only [List.length_cons, List.length_nil] at *
          obtain ⟨ba, oa, rfl, ha⟩ := ga (by omega)
          have hat := ha 0 (by simp)
          simp only [Nat.zero_mul, Nat.add_zero, List.getElem_cons_zero] at hat
          have hatw := hat.keep (Below.keeps hP.bel)
          obtain ⟨v0, k0, hv0, _⟩ := hatw
          have hla : ba < w'.heap.size := World.block_lt_of_cell? w' _ k0
          have HA := Lib.hid hat
          have h1a : 1 ≤ ca := by obtain ⟨A9, n9, c9, e9, h9, _⟩ := hca; injection e9 with _ e1 e2; omega
          obtain ⟨Ax, hAx⟩ : ∃ Ax, (if ca = 1 then some (⟨ba, oa, none⟩ : Addr) else some ⟨ba, oa + 5, none⟩) = Ax := ⟨_, rfl⟩
          have HRA := Lib.hid (show RdC W (.slice Ax ta.length (ca - 1)) ta ∧ CapOk (.slice Ax ta.length (ca - 1)) from hAx ▸ tailC HP.out.ra hca)
          obtain ⟨bb, ob, rfl, hb⟩ := gb (by omega)
          have hbt := hb 0 (by simp)
          simp only [Nat.zero_mul, Nat.add_zero, List.getElem_cons_zero] at hbt
          have hbtw := hbt.keep (Below.keeps hP.bel)
          obtain ⟨w0, m0, hw0, _⟩ := hbtw
          have hlb : bb < w'.heap.size := World.block_lt_of_cell? w' _ m0
          have HBt := Lib.hid hbt
          have h1b : 1 ≤ cb := by obtain ⟨A9, n9, c9, e9, h9, _⟩ := hcb; injection e9 with _ e1 e2; omega
          have HCm := Lib.hid (fun (w'' : World) (h1 : RdU w'' v0 (pti x.p)) (h2 : RdU w'' w0 (pti y.p)) => zCmp_any x.p y.p v0 w0 w'' h1 h2 (by rw [RA.out.len _ (HP.out.sa _ (List.mem_cons_self ..)), RB.out.len _ (HP.out.sb _ (List.mem_cons_self ..))]) (by rw [RA.out.len _ (HP.out.sa _ (List.mem_cons_self ..))]; exact HK.out.1) (by rw [RA.out.len _ (HP.out.sa _ (List.mem_cons_self ..))]; exact HK.out.2.1) (RA.out.ok _ (HP.out.sa _ (List.mem_cons_self ..))) (RB.out.ok _ (HP.out.sb _ (List.mem_cons_self ..))))
          have HV := Lib.hid (And.intro hv0 hw0)
          obtain ⟨A0, cc, rfl, hx0⟩ := RdU.point hv0
          obtain ⟨A1, cd, rfl, hx1⟩ := RdU.point hw0
          clear hx0 hx1
          obtain ⟨m, hm, hpe⟩ := HP.out.lt hz
          have HS := Lib.hid (And.intro hm hpe)
          have HTell := Lib.hid (fun (w'' : World) (hi : Inv d w'') (hbe : Below W.heap.size W w'') => HT.out d (some x, none) (.pointer (some ⟨ba, oa, none⟩)) (.pointer none) w'' hi hbe (HA.out.keep (Below.keeps hbe) |> fun h => ⟨_, _, rfl, h⟩) rfl (fun z hz => by injection hz with hz; subst hz; exact HP.out.sa _ (List.mem_cons_self ..)) (fun z hz => by cases hz) (by have := HP.out.len; have := HK.out.2.2; simp at *; omega) (by simp))
          generalize Zb.cmp x.p y.p = z at *
          have z1 : z ≤ 0 := by omega
          have z2 : ¬ z ≥ 0 := by omega
          have sa1 : ((ta.length : Int) + 1 == 0) = false := by simp; omega
          have sa2 : (0 : Int) < (ta.length : Int) + 1 := by omega
          have sa3 : (1 : Int) ≤ (ta.length : Int) + 1 := by omega
          have sb1 : ((tb.length : Int) + 1 == 0) = false := by simp; omega
          have sb2 : (0 : Int) < (tb.length : Int) + 1 := by omega
          have sb3 : (1 : Int) ≤ (tb.length : Int) + 1 := by omega
          clear hP hca hcb hm hpe ga gb ha hat hv0 hb hbt hw0 hz
          go_wp2_with fail
          go_quiet ((go_at_call 33; exact Calls.quiet_of_same ((HCm.out _ (RdU.drewN HV.out.1 _) (RdU.drewN HV.out.2 _)).mono fun e w' ⟨h1, h2⟩ => ⟨h1, h2⟩)))
          go_wp2_with fail
          go_quiet (fail)
          go_wp2_with fail
          have hbe := HP.out.bel
          refine (HTell.out _ (HDr.out _ _ _ HP.out.inv) (Bdrew hbe _)).mono ?_
          rintro e w5 ⟨rfl, hI5, hb5⟩
          have HI5 := Lib.hid (And.intro hI5 hb5)
          clear hI5 hb5 hbe
          generalize hT : T (some x, none) = t at *
          have HTt := Lib.hid hT
          clear hT
          cases t with
          | false =>
            go_wp2_with fail
            simp only [Exit.jump]
            go_ret
            have e : (pairs a b).all T = false := by rw [HS.out.2, List.all_append, List.all_cons, HTt.out]; simp
            exact ⟨by rw [e] <;> rfl, (fun h => by rw [e] at h; cases h), HI5.out.2⟩
          | true =>
            go_wp2_with fail
            go_step3
            refine ⟨rfl, ⟨_, _, m, ta, (y :: tb), d ++ [(some x, none)], _, _, _, _, _, _, _, _, _, _, _, _, _, _, _, _, _, _, _, _, _, _, _, _, _, _, _, _, _, _, _, _, _, _, _, _, _, _, _, _, _, _, _, _, _, _, _, _, rfl, ⟨HRA.out, HP.out.rb, by (try simp only [List.length_cons, List.length_nil]); have := HS.out.1; omega, by rw [HS.out.2, List.append_assoc]; rfl, by rw [List.all_append, HP.out.all, List.all_cons, HTt.out]; rfl, HI5.out.1 (by first | rfl | trivial), HI5.out.2, fun z hz => HP.out.sa z (List.mem_cons_of_mem _ hz), fun z hz => HP.out.sb z (hz), by have := HP.out.len; (try simp only [List.length_cons, List.length_nil, List.length_append] at *); omega⟩⟩, ?_⟩
            simp [lenOf] <;> omega
        · by_cases hz2 : 0 < Zb.cmp x.p y.p
          · skip
            have HP := Lib.hid hP
            obtain ⟨⟨Aa, ca, ea, ga⟩, hca⟩ := hP.ra
            obtain ⟨⟨Ab, cb, eb, gb⟩, hcb⟩ := hP.rb
            subst ea eb
            simp only [List.length_cons, List.length_nil] at *
            obtain ⟨ba, oa, rfl, ha⟩ := ga (by omega)
            have hat := ha 0 (by simp)
            simp only [Nat.zero_mul, Nat.add_zero, List.getElem_cons_zero] at hat
            have hatw := hat.keep (Below.keeps hP.bel)
            obtain ⟨v0, k0, hv0, _⟩ := hatw
            have hla : ba < w'.heap.size := World.block_lt_of_cell? w' _ k0
            have HA := Lib.hid hat
            have h1a : 1 ≤ ca := by obtain ⟨A9, n9, c9, e9, h9, _⟩ := hca; injection e9 with _ e1 e2; omega
            obtain ⟨bb, ob, rfl, hb⟩ := gb (by omega)
            have hbt := hb 0 (by simp)
            simp only [Nat.zero_mul, Nat.add_zero, List.getElem_cons_zero] at hbt
            have hbtw := hbt.keep (Below.keeps hP.bel)
            obtain ⟨w0, m0, hw0, _⟩ := hbtw
            have hlb : bb < w'.heap.size := World.block_lt_of_cell? w' _ m0
            have HBt := Lib.hid hbt
            have h1b : 1 ≤ cb := by obtain ⟨A9, n9, c9, e9, h9, _⟩ := hcb; injection e9 with _ e1 e2; omega
            obtain ⟨Ay, hAy⟩ : ∃ Ay, (if cb = 1 then some (⟨bb, ob, none⟩ : Addr) else some ⟨bb, ob + 5, none⟩) = Ay := ⟨_, rfl⟩
            have HRB := Lib.hid (show RdC W (.slice Ay tb.length (cb - 1)) tb ∧ CapOk (.slice Ay tb.length (cb - 1)) from hAy ▸ tailC HP.out.rb hcb)
            have HCm := Lib.hid (fun (w'' : World) (h1 : RdU w'' v0 (pti x.p)) (h2 : RdU w'' w0 (pti y.p)) => zCmp_any x.p y.p v0 w0 w'' h1 h2 (by rw [RA.out.len _ (HP.out.sa _ (List.mem_cons_self ..)), RB.out.len _ (HP.out.sb _ (List.mem_cons_self ..))]) (by rw [RA.out.len _ (HP.out.sa _ (List.mem_cons_self ..))]; exact HK.out.1) (by rw [RA.out.len _ (HP.out.sa _ (List.mem_cons_self ..))]; exact HK.out.2.1) (RA.out.ok _ (HP.out.sa _ (List.mem_cons_self ..))) (RB.out.ok _ (HP.out.sb _ (List.mem_cons_self ..))))
            have HV := Lib.hid (And.intro hv0 hw0)
            obtain ⟨A0, cc, rfl, hx0⟩ := RdU.point hv0
            obtain ⟨A1, cd, rfl, hx1⟩ := RdU.point hw0
            clear hx0 hx1
            obtain ⟨m, hm, hpe⟩ := HP.out.gt hz hz2
            have HS := Lib.hid (And.intro hm hpe)
            have HTell := Lib.hid (fun (w'' : World) (hi : Inv d w'') (hbe : Below W.heap.size W w'') => HT.out d (none, some y) (.pointer none) (.pointer (some ⟨bb, ob, none⟩)) w'' hi hbe rfl (HBt.out.keep (Below.keeps hbe) |> fun h => ⟨_, _, rfl, h⟩) (fun z hz => by cases hz) (fun z hz => by injection hz with hz; subst hz; exact HP.out.sb _ (List.mem_cons_self ..)) (by have := HP.out.len; have := HK.out.2.2; simp at *; omega) (by simp))
            generalize Zb.cmp x.p y.p = z at *
            have z1 : ¬ z ≤ 0 := by omega
            have z2 : z ≥ 0 := by omega
            have sa1 : ((ta.length : Int) + 1 == 0) = false := by simp; omega
            have sa2 : (0 : Int) < (ta.length : Int) + 1 := by omega
            have sa3 : (1 : Int) ≤ (ta.length : Int) + 1 := by omega
            have sb1 : ((tb.length : Int) + 1 == 0) = false := by simp; omega
            have sb2 : (0 : Int) < (tb.length : Int) + 1 := by omega
            have sb3 : (1 : Int) ≤ (tb.length : Int) + 1 := by omega
            clear hP hca hcb hm hpe ga gb ha hat hv0 hb hbt hw0 hz hz2
            go_wp2_with fail
            go_quiet ((go_at_call 33; exact Calls.quiet_of_same ((HCm.out _ (RdU.drewN HV.out.1 _) (RdU.drewN HV.out.2 _)).mono fun e w' ⟨h1, h2⟩ => ⟨h1, h2⟩)))
            go_wp2_with fail
            go_quiet (fail)
            go_wp2_with fail
            have hbe := HP.out.bel
            refine (HTell.out _ (HDr.out _ _ _ HP.out.inv) (Bdrew hbe _)).mono ?_
            rintro e w5 ⟨rfl, hI5, hb5⟩
            have HI5 := Lib.hid (And.intro hI5 hb5)
            clear hI5 hb5 hbe
            generalize hT : T (none, some y) = t at *
            have HTt := Lib.hid hT
            clear hT
            cases t with
            | false =>
              go_wp2_with fail
              simp only [Exit.jump]
              go_ret
              have e : (pairs a b).all T = false := by rw [HS.out.2, List.all_append, List.all_cons, HTt.out]; simp
              exact ⟨by rw [e] <;> rfl, (fun h => by rw [e] at h; cases h), HI5.out.2⟩
            | true =>
              go_wp2_with fail
              go_step3
              refine ⟨rfl, ⟨_, _, m, (x :: ta), tb, d ++ [(none, some y)], _, _, _, _, _, _, _, _, _, _, _, _, _, _, _, _, _, _, _, _, _, _, _, _, _, _, _, _, _, _, _, _, _, _, _, _, _, _, _, _, _, _, _, _, _, _, _, _, rfl, ⟨HP.out.ra, HRB.out, by (try simp only [List.length_cons, List.length_nil]); have := HS.out.1; omega, by rw [HS.out.2, List.append_assoc]; rfl, by rw [List.all_append, HP.out.all, List.all_cons, HTt.out]; rfl, HI5.out.1 (by first | rfl | trivial), HI5.out.2, fun z hz => HP.out.sa z (hz), fun z hz => HP.out.sb z (List.mem_cons_of_mem _ hz), by have := HP.out.len; (try simp only [List.length_cons, List.length_nil, List.length_append] at *); omega⟩⟩, ?_⟩
              simp [lenOf] <;> omega
          · skip
            have HP := Lib.hid hP
            obtain ⟨⟨Aa, ca, ea, ga⟩, hca⟩ := hP.ra
            obtain ⟨⟨Ab, cb, eb, gb⟩, hcb⟩ := hP.rb
            subst ea eb
            simp only [List.length_cons, List.length_nil] at *
            obtain ⟨ba, oa, rfl, ha⟩ := ga (by omega)
            have hat := ha 0 (by simp)
            simp only [Nat.zero_mul, Nat.add_zero, List.getElem_cons_zero] at hat
            have hatw := hat.keep (Below.keeps hP.bel)
            obtain ⟨v0, k0, hv0, _⟩ := hatw
            have hla : ba < w'.heap.size := World.block_lt_of_cell? w' _ k0
            have HA := Lib.hid hat
            have h1a : 1 ≤ ca := by obtain ⟨A9, n9, c9, e9, h9, _⟩ := hca; injection e9 with _ e1 e2; omega
            obtain ⟨Ax, hAx⟩ : ∃ Ax, (if ca = 1 then some (⟨ba, oa, none⟩ : Addr) else some ⟨ba, oa + 5, none⟩) = Ax := ⟨_, rfl⟩
            have HRA := Lib.hid (show RdC W (.slice Ax ta.length (ca - 1)) ta ∧ CapOk (.slice Ax ta.length (ca - 1)) from hAx ▸ tailC HP.out.ra hca)
            obtain ⟨bb, ob, rfl, hb⟩ := gb (by omega)
            have hbt := hb 0 (by simp)
            simp only [Nat.zero_mul, Nat.add_zero, List.getElem_cons_zero] at hbt
            have hbtw := hbt.keep (Below.keeps hP.bel)
            obtain ⟨w0, m0, hw0, _⟩ := hbtw
            have hlb : bb < w'.heap.size := World.block_lt_of_cell? w' _ m0
            have HBt := Lib.hid hbt
            have h1b : 1 ≤ cb := by obtain ⟨A9, n9, c9, e9, h9, _⟩ := hcb; injection e9 with _ e1 e2; omega
            obtain ⟨Ay, hAy⟩ : ∃ Ay, (if cb = 1 then some (⟨bb, ob, none⟩ : Addr) else some ⟨bb, ob + 5, none⟩) = Ay := ⟨_, rfl⟩
            have HRB := Lib.hid (show RdC W (.slice Ay tb.length (cb - 1)) tb ∧ CapOk (.slice Ay tb.length (cb - 1)) from hAy ▸ tailC HP.out.rb hcb)
            have HCm := Lib.hid (fun (w'' : World) (h1 : RdU w'' v0 (pti x.p)) (h2 : RdU w'' w0 (pti y.p)) => zCmp_any x.p y.p v0 w0 w'' h1 h2 (by rw [RA.out.len _ (HP.out.sa _ (List.mem_cons_self ..)), RB.out.len _ (HP.out.sb _ (List.mem_cons_self ..))]) (by rw [RA.out.len _ (HP.out.sa _ (List.mem_cons_self ..))]; exact HK.out.1) (by rw [RA.out.len _ (HP.out.sa _ (List.mem_cons_self ..))]; exact HK.out.2.1) (RA.out.ok _ (HP.out.sa _ (List.mem_cons_self ..))) (RB.out.ok _ (HP.out.sb _ (List.mem_cons_self ..))))
            have HV := Lib.hid (And.intro hv0 hw0)
            obtain ⟨A0, cc, rfl, hx0⟩ := RdU.point hv0
            obtain ⟨A1, cd, rfl, hx1⟩ := RdU.point hw0
            clear hx0 hx1
            obtain ⟨m, hm, hpe⟩ := HP.out.eq hz hz2
            have HS := Lib.hid (And.intro hm hpe)
            have HTell := Lib.hid (fun (w'' : World) (hi : Inv d w'') (hbe : Below W.heap.size W w'') => HT.out d (some x, some y) (.pointer (some ⟨ba, oa, none⟩)) (.pointer (some ⟨bb, ob, none⟩)) w'' hi hbe (HA.out.keep (Below.keeps hbe) |> fun h => ⟨_, _, rfl, h⟩) (HBt.out.keep (Below.keeps hbe) |> fun h => ⟨_, _, rfl, h⟩) (fun z hz => by injection hz with hz; subst hz; exact HP.out.sa _ (List.mem_cons_self ..)) (fun z hz => by injection hz with hz; subst hz; exact HP.out.sb _ (List.mem_cons_self ..)) (by have := HP.out.len; have := HK.out.2.2; simp at *; omega) (by simp))
            generalize Zb.cmp x.p y.p = z at *
            have z1 : z ≤ 0 := by omega
            have z2 : z ≥ 0 := by omega
            have sa1 : ((ta.length : Int) + 1 == 0) = false := by simp; omega
            have sa2 : (0 : Int) < (ta.length : Int) + 1 := by omega
            have sa3 : (1 : Int) ≤ (ta.length : Int) + 1 := by omega
            have sb1 : ((tb.length : Int) + 1 == 0) = false := by simp; omega
            have sb2 : (0 : Int) < (tb.length : Int) + 1 := by omega
            have sb3 : (1 : Int) ≤ (tb.length : Int) + 1 := by omega
            clear hP hca hcb hm hpe ga gb ha hat hv0 hb hbt hw0 hz hz2
            go_wp2_with fail
            go_quiet ((go_at_call 33; exact Calls.quiet_of_same ((HCm.out _ (RdU.drewN HV.out.1 _) (RdU.drewN HV.out.2 _)).mono fun e w' ⟨h1, h2⟩ => ⟨h1, h2⟩)))
            go_wp2_with fail
            go_quiet (fail)
            go_wp2_with fail
            go_quiet (fail)
            go_wp2_with fail
            have hbe := HP.out.bel
            refine (HTell.out _ (HDr.out _ _ _ HP.out.inv) (Bdrew hbe _)).mono ?_
            rintro e w5 ⟨rfl, hI5, hb5⟩
            have HI5 := Lib.hid (And.intro hI5 hb5)
            clear hI5 hb5 hbe
            generalize hT : T (some x, some y) = t at *
            have HTt := Lib.hid hT
            clear hT
            cases t with
            | false =>
              go_wp2_with fail
              simp only [Exit.jump]
              go_ret
              have e : (pairs a b).all T = false := by rw [HS.out.2, List.all_append, List.all_cons, HTt.out]; simp
              exact ⟨by rw [e] <;> rfl, (fun h => by rw [e] at h; cases h), HI5.out.2⟩
            | true =>
              go_wp2_with fail
              go_step3
              refine ⟨rfl, ⟨_, _, m, ta, tb, d ++ [(some x, some y)], _, _, _, _, _, _, _, _, _, _, _, _, _, _, _, _, _, _, _, _, _, _, _, _, _, _, _, _, _, _, _, _, _, _, _, _, _, _, _, _, _, _, _, _, _, _, _, _, rfl, ⟨HRA.out, HRB.out, by (try simp only [List.length_cons, List.length_nil]); have := HS.out.1; omega, by rw [HS.out.2, List.append_assoc]; rfl, by rw [List.all_append, HP.out.all, List.all_cons, HTt.out]; rfl, HI5.out.1 (by first | rfl | trivial), HI5.out.2, fun z hz => HP.out.sa z (List.mem_cons_of_mem _ hz), fun z hz => HP.out.sb z (List.mem_cons_of_mem _ hz), by have := HP.out.len; (try simp only [List.length_cons, List.length_nil, List.length_append] at *); omega⟩⟩, ?_⟩
              simp [lenOf] <;> omega
  · intro Q' hR
    have hR := Lib.hid hR
    go_wp2_with fail
    go_step3
    simp only [Exit.then]
    rename_i hK
    refine hK _ _ ?_
    refine hR.out _ _ ?_
    exact ⟨_, _, _, a, b, [], _, _, _, _, _, _, _, _, _, _, _, _, _, _, _, _, _, _, _, _, _, _, _, _, _, _, _, _, _, _, _, _, _, _, _, _, _, _, _, _, _, _, _, _, _, _, _, _, rfl, H0.out⟩
end Go.Proofs.Ytmeffkgdmimpdaa
