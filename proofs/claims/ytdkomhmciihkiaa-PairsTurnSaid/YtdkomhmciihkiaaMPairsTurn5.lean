/-
  Texts that the proof of PairsTurn leans on, part 5: contracts of functions, and plain laws.
-/
import Derived.Test.YtdkomhmciihkiaaMPairsTurn4
import Derived.ScopeJumps
import Derived.WalkMore
import Derived.Deep.Slices
import Derived.Deep.Fields
import Derived.ChangeSame
import Derived.ProofKit
import Derived.OpenShut
/-! PrsB -/
namespace Go.Proofs.Ytdkomhmciihkiaa
open Go.RowKit
set_option linter.unusedVariables false
set_option linter.unusedSimpArgs false
set_option maxRecDepth 100000

def kidV (x : Nat × Nat × List En) : Value := .pointer (some ⟨x.2.1, 0, none⟩)
set_option maxHeartbeats 2000000 in
theorem pkids_any (w : World) (b s k : Nat) (ks : List (Nat × Nat × List En)) (y3 : w.cell? ⟨b, 3, none⟩ = some (.pointer (some ⟨s, 0, none⟩))) (hs : SlR w s k (ks.map kb)) (hn : ks.length ≤ 90000) :
    Calls Try.prog 30 #[.pointer (some ⟨b, 0, none⟩)] w fun e w' => ∃ v, e = .returned v ∧ OwnV 51 w w' v (ks.map kidV) ∧ Below w.heap.size w w' := by
  have HFK := Lib.hid (FromK.of y3 hs)
  have HN := Lib.hid hn
  clear y3 hs hn
  go_enter Try.func30, Try.ntmps30
  go_wp2_with fail
  refine (HFK.out.zero _ (Below.refl _ _)).mono ?_
  rintro e w1 ⟨rfl, hb1⟩
  have HB1 := Lib.hid hb1
  clear hb1
  go_wp2_with fail
  go_loopw [3, 4, 5] (fun ov av kv wr => ∃ j : Nat, j ≤ ks.length ∧ av = frA (frO ks j) ∧ kv = frK (frO ks j) ∧ OwnV 51 w wr ov ((ks.map kidV).take j) ∧ Below w.heap.size w wr) (fun _ av kv _ => kmu av kv)
  case atStart => exact ⟨0, Nat.zero_le _, rfl, rfl, World.ownsRow_nil _ _ _ _, HB1.out⟩
  case round =>
    obtain ⟨j, hj, rfl, rfl, hown, hb⟩ := hrel
    have HO := Lib.hid (And.intro hown hb)
    by_cases hlt : j < ks.length
    · have HNX := Lib.hid (HFK.out.next j hlt)
      have HMU := Lib.hid (HFK.out.mu j hlt)
      have hla := HFK.out.lt j hlt
      have HTK := Lib.hid (show (ks.map kidV).take (j + 1) = (ks.map kidV).take j ++ [.pointer (some ⟨ks[j].2.1, 0, none⟩)] by rw [← List.take_append_getElem (by rw [List.length_map]; exact hlt), List.getElem_map]; rfl)
      rw [frO_some hlt] at HMU ⊢
      obtain ⟨A, hA⟩ : ∃ A, ks[j].1 = A := ⟨_, rfl⟩
      obtain ⟨B, hB⟩ : ∃ B, ks[j].2.1 = B := ⟨_, rfl⟩
      rw [hA] at HNX HMU hla ⊢
      rw [hB] at HMU HTK ⊢
      have HW := Lib.hid (show wrap64 ((A : Int) + 1) = (A : Int) + 1 by unfold wrap64; omega)
      have HJ := Lib.hid hlt
      rw [frA_some, frK_some]
      obtain ⟨A0, c0, hv0⟩ := OwnV.shape hown
      obtain ⟨n0, hn0⟩ : ∃ n, ((ks.map kidV).take j).length = n := ⟨_, rfl⟩
      rw [hn0] at hv0
      subst hv0
      clear hown hb hA hB hla hn0
      go_wp2_with (at_builtin; refine wpList_append_V rfl (.tmp 20) (.tmp 22) rfl w ((ks.map kidV).take j) (.pointer (some ⟨B, 0, none⟩)) nodesT ?_ ?_ ?_ ?_ ?_)
      · exact HO.out.1.below (by repeat (first | exact Below.refl _ _ | (refine Below.drew ?_) | (refine below_drewN' ?_ _) | (refine below_alloc' ?_ _) | (refine Below.setCell ?_ (by first | exact Nat.le_refl _ | (simp; done) | (simp; omega)) _)))
      · exact ⟨_, _, rfl, by simp [go_sem], rfl⟩
      · have := HO.out.2.size; simp; omega
      · rw [List.length_take, List.length_map]; have := HN.out; omega
      intro v' w3 hown' hg
      have hb3 : Below w.heap.size w w3 := OwnV.grown (HO.out.1.below (by repeat (first | exact Below.refl _ _ | (refine Below.drew ?_) | (refine below_drewN' ?_ _) | (refine below_alloc' ?_ _) | (refine Below.setCell ?_ (by first | exact Nat.le_refl _ | (simp; done) | (simp; omega)) _)))) (below_trans HO.out.2 (by repeat (first | exact Below.refl _ _ | (refine Below.drew ?_) | (refine below_drewN' ?_ _) | (refine below_alloc' ?_ _) | (refine Below.setCell ?_ (by first | exact Nat.le_refl _ | (simp; done) | (simp; omega)) _)))) hg
      rw [← HTK.out] at hown'
      have HO3 := Lib.hid (And.intro hown' hb3)
      obtain ⟨A3, n3, c3, rfl⟩ : ∃ A n c, v' = .slice A n c := let ⟨A, c, h⟩ := OwnV.shape hown'; ⟨A, _, c, h⟩
      clear hown' hg hb3
      go_wp2_with fail
      (try rw [HW.out])
      refine (HNX.out _ HO3.out.2).mono ?_
      rintro e w4 ⟨rfl, hb4⟩
      have HO4 := Lib.hid (And.intro (HO3.out.1.below hb4) (HO3.out.2.trans (hb4.mono HO3.out.2.size)))
      clear hb4
      go_wp2_with fail
      go_roundw
      case rel => exact ⟨j + 1, by have := HJ.out; omega, rfl, rfl, HO4.out.1, HO4.out.2⟩
      case measure => exact HMU.out
    · rw [frO_none hlt]
      rw [frA_none, frK_none]
      have e : (ks.map kidV).take j = ks.map kidV := List.take_of_length_le (by rw [List.length_map]; omega)
      rw [e] at HO
      clear hown hb e
      go_wp2_with fail
      go_ret
      exact ⟨_, rfl, HO.out.1, HO.out.2⟩
end Go.Proofs.Ytdkomhmciihkiaa
/-! IsN -/
namespace Go.Proofs.Ytdkomhmciihkiaa
open Go.RowKit
set_option linter.unusedVariables false
set_option linter.unusedSimpArgs false
set_option maxRecDepth 100000

end Go.Proofs.Ytdkomhmciihkiaa
/-! IsT -/
namespace Go.Proofs.Ytdkomhmciihkiaa
open Go.RowKit
set_option linter.unusedVariables false
set_option linter.unusedSimpArgs false
set_option maxRecDepth 100000








theorem RdS.mono {Pt Qt : PtS'} {w : World} {v : Value} {l : List Sh} (h : RdS Pt w v l) (hk : ∀ u p s, Pt u p s → Qt u p s) : RdS Qt w v l := by
  obtain ⟨A, c, e, h⟩ := h
  exact ⟨A, c, e, fun hp => let ⟨b, h1, h2⟩ := h hp; ⟨b, h1, fun j hj => let ⟨u, pl, a0, a1, a2, a3, a4, a5⟩ := h2 j hj; ⟨u, pl, a0, a1, a2, a3, a4, hk _ _ _ a5⟩⟩⟩
theorem RdS.below {Pt : PtS'} {w w' : World} {v : Value} {l : List Sh} (h : RdS Pt w v l) (hb : Below w.heap.size w w') : RdS Pt w' v l := by
  obtain ⟨A, c, e, h⟩ := h
  have hk := Below.keeps hb
  exact ⟨A, c, e, fun hp => let ⟨b, h1, h2⟩ := h hp; ⟨b, h1, fun j hj => let ⟨u, pl, a0, a1, a2, a3, a4, a5⟩ := h2 j hj; ⟨u, pl, hk _ _ a0, hk _ _ a1, hk _ _ a2, hk _ _ a3, hk _ _ a4, a5⟩⟩⟩
end Go.Proofs.Ytdkomhmciihkiaa
/-! NdE -/
namespace Go.Proofs.Ytdkomhmciihkiaa
open Go.RowKit
set_option linter.unusedVariables false
set_option maxRecDepth 100000

end Go.Proofs.Ytdkomhmciihkiaa
/-! NdU -/
namespace Go.Proofs.Ytdkomhmciihkiaa
open Go.RowKit
set_option linter.unusedVariables false

theorem point_uniq {w : World} {v : Value} {p q : List Nat} (h : RdU w v (pti p)) (g : RdU w v (pti q)) : p = q := by
  obtain ⟨A, c, rfl, hx⟩ := RdU.point h
  obtain ⟨A', c', e, hy⟩ := RdU.point g
  injection e with e1 e2 _
  subst e1
  refine List.ext_getElem e2 fun j h1 h2 => ?_
  obtain ⟨b, o, ha, hc⟩ := hx (by omega)
  obtain ⟨b', o', ha', hc'⟩ := hy (by omega)
  rw [ha] at ha'
  injection ha' with ha'
  injection ha' with e3 e4
  subst e3 e4
  have := (hc j h1).symm.trans (hc' j h2)
  injection this with this
  injection this with _ this
  exact Int.ofNat.inj this
theorem pv_inj {a b : Option Nat} (h : pv a = pv b) : a = b := by
  cases a with
  | none => cases b with
    | none => rfl
    | some y => simp [pv] at h
  | some x => cases b with
    | none => simp [pv] at h
    | some y => simp [pv] at h; rw [h]
theorem RdK.uniq {w : World} {v : Value} {l m : List Cl} (h : RdK w v l) (g : RdK w v m) : l = m := by
  obtain ⟨A, c, rfl, _, hx⟩ := h
  obtain ⟨A', c', e, _, hy⟩ := g
  injection e with e1 e2 _
  subst e1
  refine List.ext_getElem e2 fun j h1 h2 => ?_
  obtain ⟨b, o, ha, hc⟩ := hx (by omega)
  obtain ⟨b', o', ha', hc'⟩ := hy (by omega)
  rw [ha] at ha'
  injection ha' with ha'
  injection ha' with e3 e4
  subst e3 e4
  obtain ⟨a1, a2, a3⟩ := hc j h1
  obtain ⟨b1, b2, b3⟩ := hc' j h2
  have q1 := a1.symm.trans b1
  have q2 := a2.symm.trans b2
  have q3 := a3.symm.trans b3
  injection q1 with q1
  injection q1 with _ q1
  injection q2 with q2
  injection q3 with q3
  injection q3 with q3
  have q1 := Int.ofNat.inj q1
  have q2 := pv_inj q2
  cases h5 : l[j]
  cases h6 : m[j]
  rw [h5, h6] at q1 q2 q3
  simp only at q1 q2 q3
  rw [q1, q2, q3]
theorem SlR.uniq {w : World} {b k k' : Nat} {l m : List (Nat × Nat)} (h : SlR w b k l) (g : SlR w b k' m) : l = m := by
  have e0 := h.c0.symm.trans g.c0
  injection e0 with e0
  injection e0 with _ e0
  have e0 : k = k' := Int.ofNat.inj e0
  subst e0
  obtain ⟨v, h1, h2⟩ := h.c2
  obtain ⟨v', g1, g2⟩ := g.c2
  have e1 := h1.symm.trans g1
  injection e1 with e1
  subst e1
  have e2 := congrArg hasL (h2.uniq g2)
  rw [has_lay h.rw', has_lay g.rw'] at e2
  refine List.map_inj_right (f := takenC) (fun x y e => ?_) |>.1 e2
  unfold takenC at e
  injection e with e3 e4 _
  injection e4 with e4
  exact Prod.ext e3 e4
theorem Nd.uniq {w : World} {k : Nat} {b : Nat} {l : List En} (h : Nd w k b l) : ∀ {k' : Nat} {m : List En}, Nd w k' b m → l = m := by
  induction h with
  | leaf b p v h hp ho hv =>
    intro k' m g
    cases g with
    | leaf _ p' v' h' hp' ho' hv' =>
      obtain ⟨u, q1, q2⟩ := h.c1
      obtain ⟨u', q1', q2'⟩ := h'.c1
      have e1 := q1.symm.trans q1'
      injection e1 with e1
      subst e1
      have e2 := point_uniq q2 q2'
      have e3 := h.c2.symm.trans h'.c2
      injection e3 with e3
      injection e3 with _ e3
      have e3 : v = v' := Int.ofNat.inj e3
      rw [e2, e3]
    | node _ s n pre ks h' hs hkd hn =>
      have e1 := h.c3.symm.trans h'.c3
      injection e1 with e1
      injection e1 with e1
      cases e1
  | node b s n pre ks h hs hkd hn ih =>
    intro k' m g
    generalize hm : m = m' at g
    cases g with
    | leaf _ p' v' h' hp' ho' hv' =>
      have e1 := h.c3.symm.trans h'.c3
      injection e1 with e1
      injection e1 with e1
      cases e1
    | node _ s' n' pre' ks' h' hs' hkd' hn' =>
      subst hm
      have e1 := h.c3.symm.trans h'.c3
      injection e1 with e1
      injection e1 with e1
      injection e1 with e1
      injection e1 with e1
      subst e1
      have e2 := hs.uniq hs'
      have hl := congrArg List.length e2
      rw [List.length_map, List.length_map] at hl
      have e3 : ks.map kl = ks'.map kl := by
        refine List.ext_getElem (by rw [List.length_map, List.length_map]; exact hl) fun j h1 h2 => ?_
        rw [List.length_map] at h1 h2
        have e4 : (ks.map kb)[j]? = (ks'.map kb)[j]? := by rw [e2]
        rw [List.getElem?_map, List.getElem?_map, List.getElem?_eq_getElem h1, List.getElem?_eq_getElem h2] at e4
        simp only [Option.map_some, Option.some.injEq] at e4
        have e5 : ks[j].1 = ks'[j].1 := congrArg (fun x : Nat × Nat => x.1) e4
        have e6 : ks[j].2.1 = ks'[j].2.1 := congrArg (fun x : Nat × Nat => x.2) e4
        rw [List.getElem_map, List.getElem_map]
        have e7 := ih ks[j] (List.getElem_mem h1) (k' := k') (m := ks'[j].2.2) (by rw [e6]; exact hn' ks'[j] (List.getElem_mem h2))
        show (ks[j].1, ks[j].2.2) = (ks'[j].1, ks'[j].2.2)
        rw [e5, e7]
      rw [e3]
theorem RtN.uniq {w : World} {k k' : Nat} {r : Option Nat} {l m : List En} (h : RtN w k r l) (g : RtN w k' r m) : l = m := by
  cases r with
  | none => obtain rfl : l = [] := h; obtain rfl : m = [] := g; rfl
  | some b => exact Nd.uniq h g
end Go.Proofs.Ytdkomhmciihkiaa
/-! PrsC -/
namespace Go
open Go.RowKit
/-- a goto loop with an invariant that counts down -/
theorem wp_scope_jumpsN {P : Program} {a : Act} {w : World} {Q : Exit → Act → World → Prop} {c rest : Code} (l : Nat) (J : Nat → Act → World → Prop) (hf : findLabel c l = some (Code.skip.seq rest))
    (pass : ∀ n a w, J n a w → rest.wp P (Exit.jump l (fun a' w' => ∃ m, m < n ∧ J m a' w') Q) a w)
    (first : ∀ Q', (∀ n a w, J n a w → rest.wp P Q' a w) → c.wp P Q' a w) : (Code.scope c).wp P Q a w := by
  classical
  have key : ∀ a w, (∃ n, J n a w) → ∃ n, J n a w ∧ ∀ m, J m a w → n ≤ m := fun a w h => by
    obtain ⟨n, hn⟩ := h
    induction n using Nat.strongRecOn with
    | _ n ih =>
      by_cases hx : ∃ m, m < n ∧ J m a w
      · obtain ⟨m, h1, h2⟩ := hx
        exact ih m h1 h2
      · exact ⟨n, hn, fun m hm => Nat.le_of_not_lt fun h => hx ⟨m, h, hm⟩⟩
  let μ : Act → World → Nat := fun a w => if h : ∃ n, J n a w then (key a w h).choose else 0
  have hμ : ∀ a w (h : ∃ n, J n a w), J (μ a w) a w ∧ ∀ m, J m a w → μ a w ≤ m := fun a w h => by
    simp only [μ, dif_pos h]
    exact (key a w h).choose_spec
  have pass' : ∀ a w, (∃ n, J n a w) → rest.wp P (Exit.jump l (fun a' w' => (∃ n, J n a' w') ∧ μ a' w' < μ a w) Q) a w := fun a w h => by
    obtain ⟨h1, h2⟩ := hμ a w h
    refine wp_mono (pass (μ a w) a w h1) ?_
    intro e a' w' h
    cases e
    case goto l' =>
      obtain ⟨e1, m, h3, h4⟩ := h
      exact ⟨e1, ⟨m, h4⟩, Nat.lt_of_le_of_lt ((hμ a' w' ⟨m, h4⟩).2 m h4) h3⟩
    all_goals exact h
  refine wp_scope_jumps l (fun a w => ∃ n, J n a w) μ hf (first _ fun n a w hJ => wp_mono (pass' a w ⟨n, hJ⟩) ?_) (fun a w hJ => wp_seq (wp_skip (pass' a w hJ)))
  intro e a' w' h
  cases e
  case goto l' => exact ⟨h.1, h.2.1⟩
  all_goals exact h
end Go
namespace Go.Proofs.Ytdkomhmciihkiaa
open Go.RowKit
set_option linter.unusedVariables false
set_option linter.unusedSimpArgs false
set_option maxRecDepth 100000

/-- two nodes: block and list of each -/
abbrev Cp := (Nat × List En) × (Nat × List En)
def cpV (x : Cp) : List Value := [.pointer (some ⟨x.1.1, 0, none⟩), .pointer (some ⟨x.2.1, 0, none⟩)]
def cpsV (l : List Cp) : List Value := l.flatMap cpV
theorem cpsV_snoc (l : List Cp) (x : Cp) : cpsV (l ++ [x]) = cpsV l ++ cpV x := by unfold cpsV; rw [List.flatMap_append]; simp
theorem cpsV_length (l : List Cp) : (cpsV l).length = l.length * 2 := by
  induction l with
  | nil => rfl
  | cons x l ih => show (cpV x ++ cpsV l).length = _; rw [List.length_append, ih]; simp [cpV]; omega
/-- a row of couples of the call's own -/
def OwnQ (W w : World) (v : Value) (l : List Cp) : Prop := w.ownsRow W.heap.size 69 2 v l.length (cpsV l)
theorem OwnQ.nil (W w : World) : OwnQ W w (.slice none 0 0) [] := World.ownsRow_nil _ _ _ _
theorem OwnQ.below {W w w' : World} {v : Value} {l : List Cp} (h : OwnQ W w v l) (hb : Below w.heap.size w w') : OwnQ W w' v l := by
  obtain ⟨h1, h2⟩ := h
  refine ⟨h1, ?_⟩
  rcases h2 with h2 | ⟨g, cap, cur, q1, q2, q3, q4⟩
  · exact .inl h2
  · exact .inr ⟨g, cap, cur, q1, q2, (hb.block g (Array.getElem?_eq_some_iff.1 q3).1).trans q3, q4⟩
theorem OwnQ.keepBlock {W w w' : World} {v : Value} {l : List Cp} (h : OwnQ W w v l) (hk : ∀ (b : Nat) (cur : Array Value), w.heap[b]? = some (Obj.cells cur 69 (0, 0)) → w'.heap[b]? = w.heap[b]?) : OwnQ W w' v l := by
  obtain ⟨h1, h2⟩ := h
  refine ⟨h1, ?_⟩
  rcases h2 with h2 | ⟨g, cap, cur, q1, q2, q3, q4⟩
  · exact .inl h2
  · exact .inr ⟨g, cap, cur, q1, q2, (hk g cur q3).trans q3, q4⟩
theorem OwnQ.shape {W w : World} {v : Value} {l : List Cp} (h : OwnQ W w v l) : ∃ A c, v = .slice A l.length c := by
  obtain ⟨h1, h2⟩ := h
  rcases h2 with ⟨rfl, h0⟩ | ⟨g, cap, cur, rfl, _⟩
  · exact ⟨_, _, by rw [h0]⟩
  · exact ⟨_, _, rfl⟩
theorem OwnQ.block {W w : World} {v : Value} {l : List Cp} (h : OwnQ W w v l) : ∀ k, v.ownBlock = some k → W.heap.size ≤ k ∧ ∃ cur, w.heap[k]? = some (.cells cur 69 (0, 0)) := by
  obtain ⟨h1, h2⟩ := h
  intro k hk
  rcases h2 with ⟨rfl, _⟩ | ⟨g, cap, cur, rfl, q2, q3, q4⟩
  · cases hk
  · injection hk with hk; subst hk; exact ⟨q2, cur, q3⟩
theorem OwnQ.grown {W w w' : World} {v : Value} {l : List Cp} (h : OwnQ W w v l) (hb : Below W.heap.size W w) (hg : w.grownBy w' v.ownBlock) : Below W.heap.size W w' :=
  hb.grown hg hb.size fun k hk => (h.block k hk).1
theorem OwnQ.last {W w : World} {v : Value} {l : List Cp} {x : Cp} (h : OwnQ W w v (l ++ [x])) :
    ∃ g c, v = .slice (some ⟨g, 0, none⟩) (l.length + 1) c ∧ w.cell? ⟨g, l.length * 2, none⟩ = some (.pointer (some ⟨x.1.1, 0, none⟩)) ∧ w.cell? ⟨g, l.length * 2 + 1, none⟩ = some (.pointer (some ⟨x.2.1, 0, none⟩)) ∧
      OwnQ W w (.slice (some ⟨g, 0, none⟩) l.length c) l ∧ l.length + 1 ≤ c ∧ c ≤ maxLen := by
  obtain ⟨h1, h2⟩ := h
  rw [List.length_append, List.length_singleton] at h2
  have hlen := cpsV_length l
  rcases h2 with ⟨_, h2⟩ | ⟨g, cap, cur, q1, q2, q3, q4, q5, q6, q7⟩
  · omega
  · rw [cpsV_snoc] at q7
    have hc : ∀ j (hj : j < (cpsV l ++ cpV x).length), w.cell? ⟨g, j, none⟩ = some ((cpsV l ++ cpV x)[j]) := fun j hj => by
      have h3 : (cpsV l ++ cpV x)[j]? = some ((cpsV l ++ cpV x)[j]) := List.getElem?_eq_getElem hj
      have h4 : j < (l.length + 1) * 2 := by rw [List.length_append, hlen] at hj; simp [cpV] at hj; omega
      rw [← h3, ← q7, List.getElem?_take_of_lt h4, World.cell?]
      simp only [q3]
      simp
    refine ⟨g, cap, q1, ?_, ?_, ⟨hlen, .inr ⟨g, cap, cur, rfl, q2, q3, by omega, q5, q6, ?_⟩⟩, q4, q5⟩
    · have := hc (l.length * 2) (by rw [List.length_append, hlen]; simp [cpV])
      rw [this, List.getElem_append_right (by omega)]
      simp [cpV, hlen]
    · have := hc (l.length * 2 + 1) (by rw [List.length_append, hlen]; simp [cpV])
      rw [this, List.getElem_append_right (by omega)]
      simp [cpV, hlen]
    · have := congrArg (List.take (l.length * 2)) q7
      rw [List.take_take, ← hlen, List.take_left] at this
      rw [← hlen]
      rw [Nat.min_eq_left (by rw [hlen]; omega)] at this
      exact this
theorem coupleInfo : (Try.prog.info? 69).map (fun i => (i.zero, i.size, i.bytes)) = some (some (.agg #[.pointer none, .pointer none]), 2, 16) := by kernel_rfl
/-- one couple to be appended -/
def SrcQ (w : World) (x : Value) (e : Cp) : Prop :=
  ∃ b cc, x = .slice (some ⟨b, 0, none⟩) 1 cc ∧ w.cell? ⟨b, 0, none⟩ = some (.pointer (some ⟨e.1.1, 0, none⟩)) ∧ w.cell? ⟨b, 1, none⟩ = some (.pointer (some ⟨e.2.1, 0, none⟩))
theorem run_append_Q (W w : World) (v x : Value) (l : List Cp) (e : Cp) (hown : OwnQ W w v l) (hx : SrcQ w x e) (hb : W.heap.size ≤ w.heap.size) (hlen : l.length ≤ 100000) (ty : TypeId) :
    ∃ v' w', (Builtin.append_ #[66, 66] ty #[v, x]).run Try.prog w = .ok v' w' ∧ OwnQ W w' v' (l ++ [e]) ∧ w.grownBy w' v.ownBlock := by
  obtain ⟨b, cc, rfl, k0, k1⟩ := hx
  obtain ⟨v', w', a1, a2, a3⟩ := run_append_src (P := Try.prog) w W.heap.size 66 ty 69 _ 2 16 Try.underlying66 coupleInfo rfl (by omega) v l.length (cpsV l) hown (.slice (some ⟨b, 0, none⟩) 1 cc) 1 (cpV e)
    ⟨rfl, (by intro u hu; simp [cpV] at hu; rcases hu with rfl | rfl <;> rfl), _, cc, rfl, (fun h => by cases h), fun ad had j x hj => by
      injection had with had; subst had
      match j with
      | 0 => simp [cpV] at hj; subst hj; simpa [Addr.add] using k0
      | 1 => simp [cpV] at hj; subst hj; simpa [Addr.add] using k1
      | j + 2 => simp [cpV] at hj⟩ (by simp only [maxLen]; omega) (by omega) hb
  exact ⟨v', w', a1, by unfold OwnQ; rw [List.length_append, cpsV_snoc]; exact a2, a3⟩
theorem wpList_append_Q {w : World} {ops : Array Oper} {rest : List Oper} {o : Oper} {a : Act} {Q : Exit → Act → World → Prop} (hgd : o.guard = none) (s x : Operand)
    (ho : o.op = .call { callee := .builtin .append, args := #[s, x], argTypes := #[66, 66] }) (W : World) (l : List Cp) (e : Cp)
    (hown : OwnQ W w (a.eval s) l) (hx : SrcQ w (a.eval x) e) (hb : W.heap.size ≤ w.heap.size) (hlen : l.length ≤ 100000)
    (h : ∀ v' w', OwnQ W w' v' (l ++ [e]) → w.grownBy w' (a.eval s).ownBlock → wpList Try.prog ops Q rest (a.put o.dst v') w') : wpList Try.prog ops Q (o :: rest) a w := by
  refine wpList_plain hgd fun K hK => ?_
  obtain ⟨v', w', hrun, r1, r2⟩ := run_append_Q W w _ _ l e hown hx hb hlen o.type
  unfold Oper.wp
  simp [execOp, ho, resolve, invoke, builtin, hrun, Result.andThen]
  exact hK _ _ (h v' w' r1 r2)
/-- a row that ends with x doesn't lie where another couple lies -/
theorem OwnQ.unlike {W w : World} {v : Value} {l : List Cp} {x y : Cp} {C : Nat} {fr : Nat × Nat} (h : OwnQ W w v (l ++ [x])) (hC : w.heap[C]? = some (.cells #[.pointer (some ⟨y.1.1, 0, none⟩), .pointer (some ⟨y.2.1, 0, none⟩)] 69 fr)) (hne : x.1.1 ≠ y.1.1 ∨ x.2.1 ≠ y.2.1) :
    v.ownBlock ≠ some C := by
  intro hg
  obtain ⟨h1, h2⟩ := h
  rw [List.length_append, List.length_singleton, cpsV_snoc] at h2
  rcases h2 with ⟨_, h2⟩ | ⟨g, cap, cur, rfl, q2, q3, q4, q5, q6, q7⟩
  · omega
  · injection hg with hg
    subst hg
    rw [hC] at q3
    injection q3 with q3
    injection q3 with q3
    subst q3
    have hcap : cap = 1 := by simp at q6; omega
    have hl : l = [] := List.length_eq_zero_iff.1 (by omega)
    subst hl
    simp [cpsV, cpV] at q7
    omega
/-- blocks stay, but for rows of couples -/
structure Kq (w w' : World) : Prop where
  size : w.heap.size ≤ w'.heap.size
  keep : ∀ (b : Nat) cur t fr, w.heap[b]? = some (.cells cur t fr) → t ≠ 69 → w'.heap[b]? = some (.cells cur t fr)
theorem Kq.refl (w : World) : Kq w w := ⟨Nat.le_refl _, fun b cur t fr h _ => h⟩
theorem Kq.trans {w w' w'' : World} (h : Kq w w') (g : Kq w' w'') : Kq w w'' := ⟨Nat.le_trans h.size g.size, fun b cur t fr q1 q2 => g.keep b cur t fr (h.keep b cur t fr q1 q2) q2⟩
theorem Kq.of {w w' : World} (h : Below w.heap.size w w') : Kq w w' := ⟨h.size, fun b cur t fr q1 _ => (h.block b (lt_of_block q1)).trans q1⟩
theorem Kq.grown {W w w' : World} {v : Value} {l : List Cp} (ho : OwnQ W w v l) (hg : w.grownBy w' v.ownBlock) : Kq w w' := ⟨hg.size, fun b cur t fr q1 q2 => (hg.block b (lt_of_block q1) (fun e => by
  obtain ⟨_, c2, h2⟩ := ho.block _ e.symm
  rw [q1] at h2
  injection h2 with h2
  injection h2 with _ h2 _
  exact q2 h2)).trans q1⟩
/-- the value of two entries -/
def pairV (u v : Value) (x : En × En) : Value := .agg #[u, .int .u64 (x.1.v : Nat), v, .int .u64 (x.2.v : Nat)]
/-- the function f, with cap captured, is told pairs; Inv says what it has been told -/
structure PTell (W : World) (f : FuncId) (cap : Array Value) (N : Nat) (Inv : List (En × En) → World → Prop) : Prop where
  ent : ∀ args w, (callFunc f args).run Try.prog w = .ok (.enter f args) w
  tell : ∀ d x u v w', d.length < N → Inv d w' → Below W.heap.size W w' → PtNew w' u x.1.p → PtNew w' v x.2.p → Calls Try.prog f (#[pairV u v x] ++ cap) w' fun r w'' => r = .returned (.tuple #[]) ∧ Inv (d ++ [x]) w'' ∧ Below W.heap.size W w'' ∧ ∀ (b : Nat) cur, w'.heap[b]? = some (.cells cur 69 (0, 0)) → w''.heap[b]? = w'.heap[b]?
  step : ∀ d w' w'', Inv d w' → Kq w' w'' → Inv d w''

/-- how much there is to be done below two nodes -/
def wtP (x : Cp) : Nat := (2 * x.1.2.length - 1) * (2 * x.2.2.length - 1)
def wts (st : List Cp) : Nat := (st.map wtP).sum
def flatP (far : Nat) (st : List Cp) : List (En × En) := st.flatMap fun x => prsL far x.1.2 x.2.2
theorem wts_append (a b : List Cp) : wts (a ++ b) = wts a + wts b := by unfold wts; rw [List.map_append, List.sum_append]
theorem flatP_append (far : Nat) (a b : List Cp) : flatP far (a ++ b) = flatP far a ++ flatP far b := by unfold flatP; rw [List.flatMap_append]
theorem wt_pos {x : Cp} (h1 : 1 ≤ x.1.2.length) (h2 : 1 ≤ x.2.2.length) : 1 ≤ wtP x := by
  unfold wtP
  have := Nat.mul_le_mul (show 1 ≤ 2 * x.1.2.length - 1 by omega) (show 1 ≤ 2 * x.2.2.length - 1 by omega)
  omega
theorem wts_one (x : Cp) : wts [x] = wtP x := by unfold wts; simp
theorem wts_len {st : List Cp} (h : ∀ x ∈ st, 1 ≤ x.1.2.length ∧ 1 ≤ x.2.2.length) : st.length ≤ wts st := by
  induction st with
  | nil => exact Nat.zero_le _
  | cons x st ih =>
    have h1 := ih fun y hy => h y (List.mem_cons_of_mem _ hy)
    have h2 := h x (List.mem_cons_self ..)
    have h3 := wt_pos h2.1 h2.2
    have : wts (x :: st) = wtP x + wts st := by unfold wts; simp
    rw [this]; simp only [List.length_cons]; omega
/-- a couple split: the kids of the one with the other -/
def spA (ks : List (Nat × Nat × List En)) (y : Nat × List En) : List Cp := ks.map fun x => ((x.2.1, x.2.2), y)
def spB (y : Nat × List En) (ks : List (Nat × Nat × List En)) : List Cp := ks.map fun x => (y, (x.2.1, x.2.2))
theorem sum_kids (ks : List (Nat × Nat × List En)) (c : Nat) (hne : ∀ x ∈ ks, x.2.2 ≠ []) : (ks.map fun x => (2 * x.2.2.length - 1) * c).sum + ks.length * c = 2 * (cat (ks.map kl)).length * c := by
  induction ks with
  | nil => simp [cat]
  | cons x ks ih =>
    have h1 := ih fun y hy => hne y (List.mem_cons_of_mem _ hy)
    have h2 := List.length_pos_iff.2 (hne x (List.mem_cons_self ..))
    have e : cat ((x :: ks).map kl) = x.2.2 ++ cat (ks.map kl) := by rw [List.map_cons]; rfl
    rw [e, List.length_append, List.map_cons, List.sum_cons, List.length_cons]
    have e1 : (2 * x.2.2.length - 1) * c + c = 2 * x.2.2.length * c := by
      conv => lhs; rhs; rw [← Nat.one_mul c]
      rw [← Nat.add_mul]; congr 1; omega
    rw [Nat.add_mul, Nat.mul_add, Nat.add_mul, Nat.one_mul, ← h1, ← e1]
    omega
theorem wts_spA {k n b : Nat} {pre : List Nat} {ks : List (Nat × Nat × List En)} (h : Kd k n pre (ks.map kl)) (y : Nat × List En) (hy : 1 ≤ y.2.length) : wts (spA ks y) < wtP ((b, cat (ks.map kl)), y) := by
  have hne : ∀ x ∈ ks, x.2.2 ≠ [] := fun x hx => h.ne (kl x) (List.mem_map_of_mem hx)
  have h1 := sum_kids ks (2 * y.2.length - 1) hne
  have h2 := h.two
  rw [List.length_map] at h2
  have e : wts (spA ks y) = (ks.map fun x => (2 * x.2.2.length - 1) * (2 * y.2.length - 1)).sum := by unfold wts spA; rw [List.map_map]; rfl
  have h3 := List.length_pos_iff.2 h.cat_ne
  have h4 := Nat.mul_le_mul_right (2 * y.2.length - 1) h2
  rw [e]
  show _ < (2 * (cat (ks.map kl)).length - 1) * (2 * y.2.length - 1)
  have h5 : (2 * (cat (ks.map kl)).length - 1) * (2 * y.2.length - 1) + (2 * y.2.length - 1) = 2 * (cat (ks.map kl)).length * (2 * y.2.length - 1) := by
    conv => lhs; rhs; rw [← Nat.one_mul (2 * y.2.length - 1)]
    rw [← Nat.add_mul]; congr 1; omega
  omega
theorem wts_spB {k n b : Nat} {pre : List Nat} {ks : List (Nat × Nat × List En)} (h : Kd k n pre (ks.map kl)) (y : Nat × List En) (hy : 1 ≤ y.2.length) : wts (spB y ks) < wtP (y, (b, cat (ks.map kl))) := by
  have h1 := wts_spA (b := b) h y hy
  have e1 : wts (spB y ks) = wts (spA ks y) := by
    unfold wts spA spB
    rw [List.map_map, List.map_map]
    congr 1
    refine List.map_congr_left fun x _ => ?_
    exact Nat.mul_comm _ _
  have e2 : wtP (y, (b, cat (ks.map kl))) = wtP ((b, cat (ks.map kl)), y) := Nat.mul_comm _ _
  omega
theorem flat_spA (far : Nat) (ks : List (Nat × Nat × List En)) (y : Nat × List En) : flatP far (spA ks y) = prsL far (cat (ks.map kl)) y.2 := by
  rw [prs_left, List.flatMap_map]
  unfold flatP spA
  rw [List.flatMap_map]
  rfl
theorem flat_spB (far : Nat) (ks : List (Nat × Nat × List En)) (y : Nat × List En) : (prsL far y.2 (cat (ks.map kl))).Perm (flatP far (spB y ks)) := by
  have := prs_right far y.2 (ks.map kl)
  rw [List.flatMap_map] at this
  unfold flatP spB
  rw [List.flatMap_map]
  exact this
end Go.Proofs.Ytdkomhmciihkiaa
/-! PrsD -/
namespace Go.Proofs.Ytdkomhmciihkiaa
open Go.RowKit
set_option linter.unusedVariables false
set_option linter.unusedSimpArgs false
set_option maxRecDepth 100000

abbrev PrL := List (En × En)
abbrev CpL := List Cp
/-- what stands at the head of the loop: d has been told, st is to be done -/
structure EaI (W : World) (k far : Nat) (Inv : List (En × En) → World → Prop) (all : List (En × En)) (n : Nat) (w : World) (v : Value) (d : List (En × En)) (st : List Cp) : Prop where
  own : OwnQ W w v st
  nds : ∀ x ∈ st, Nd W k x.1.1 x.1.2 ∧ Nd W k x.2.1 x.2.2
  perm : (d ++ flatP far st).Perm all
  inv : Inv d w
  bel : Below W.heap.size W w
  wt : wts st ≤ n
  sm : n ≤ 40000
/-- what holds in the midst of a round: the couple at C has been taken off -/
structure EaV (W : World) (st : List Cp) (Inv : List (En × En) → World → Prop) (d : List (En × En)) (g c : Nat) (w : World) (C ba bb : Nat) : Prop where
  own : OwnQ W w (.slice (some ⟨g, 0, none⟩) st.length c) st
  inv : Inv d w
  bel : Below W.heap.size W w
  blk : w.heap[C]? = some (.cells #[.pointer (some ⟨ba, 0, none⟩), .pointer (some ⟨bb, 0, none⟩)] 69 (0, 0))
  ne : g ≠ C
theorem EaV.lt {W : World} {st : List Cp} {Inv : List (En × En) → World → Prop} {d : List (En × En)} {g c : Nat} {w : World} {C ba bb : Nat} (h : EaV W st Inv d g c w C ba bb) : g < w.heap.size := by
  obtain ⟨_, cur, hc⟩ := h.own.block g rfl
  exact lt_of_block hc
theorem EaV.step {W : World} {f : FuncId} {cap : Array Value} {N : Nat} {st : List Cp} {Inv : List (En × En) → World → Prop} {d : List (En × En)} {g c : Nat} {w w' : World} {C ba bb : Nat} (h : EaV W st Inv d g c w C ba bb) (T : PTell W f cap N Inv) (hb : Below w.heap.size w w') : EaV W st Inv d g c w' C ba bb :=
  ⟨h.own.below hb, T.step _ _ _ h.inv (Kq.of hb), h.bel.trans (hb.mono h.bel.size), (hb.block _ (lt_of_block h.blk)).trans h.blk, h.ne⟩
theorem cell_of2 {w : World} {b : Nat} {u v : Value} {t : TypeId} {fr : Nat × Nat} (h : w.heap[b]? = some (.cells #[u, v] t fr)) : w.cell? ⟨b, 0, none⟩ = some u ∧ w.cell? ⟨b, 1, none⟩ = some v := by simp [World.cell?, h]
theorem Nd.two {w : World} {k b : Nat} {l : List En} (h : Nd w k b l) : (∃ (p : List Nat) (v : Nat), l = [⟨p, v⟩] ∧ Hd w b (-1) p v (.pointer none) (Sm.of v) ∧ p.length = k) ∨
    ∃ (s n : Nat) (pre : List Nat) (ks : List (Nat × Nat × List En)), l = cat (ks.map kl) ∧ Hd w b (n : Nat) pre 0 (.pointer (some ⟨s, 0, none⟩)) (sumsL (cat (ks.map kl))) ∧ SlR w s k (ks.map kb) ∧ Kd k n pre (ks.map kl) ∧ ∀ x ∈ ks, Nd w k x.2.1 x.2.2 := by
  cases h with
  | leaf _ p v h hp ho hv => exact .inl ⟨p, v, rfl, h, hp⟩
  | node _ s n pre ks h hs hkd hn => exact .inr ⟨s, n, pre, ks, rfl, h, hs, hkd, hn⟩
theorem wtP_A {x : Cp} (h1 : 1 ≤ x.1.2.length) (h2 : 1 ≤ x.2.2.length) : x.1.2.length ≤ wtP x := by
  unfold wtP
  have := Nat.mul_le_mul (show x.1.2.length ≤ 2 * x.1.2.length - 1 by omega) (show 1 ≤ 2 * x.2.2.length - 1 by omega)
  omega
theorem wtP_B {x : Cp} (h1 : 1 ≤ x.1.2.length) (h2 : 1 ≤ x.2.2.length) : x.2.2.length ≤ wtP x := by
  unfold wtP
  have := Nat.mul_le_mul (show 1 ≤ 2 * x.1.2.length - 1 by omega) (show x.2.2.length ≤ 2 * x.2.2.length - 1 by omega)
  omega
/-- what holds while the kids are pushed -/
structure KlI (W : World) (Inv : List (En × En) → World → Prop) (kv : Value) (kl' : List Value) (C ba bb : Nat) (w : World) (ov : Value) (d : List (En × En)) (st : List Cp) : Prop where
  own : OwnQ W w ov st
  ne : ov.ownBlock ≠ some C
  blk : w.heap[C]? = some (.cells #[.pointer (some ⟨ba, 0, none⟩), .pointer (some ⟨bb, 0, none⟩)] 69 (0, 0))
  row : OwnV 51 W w kv kl'
  inv : Inv d w
  bel : Below W.heap.size W w
theorem KlI.mk0 {W : World} {f : FuncId} {cap : Array Value} {N : Nat} {st : List Cp} {Inv : List (En × En) → World → Prop} {d : List (En × En)} {g c : Nat} {w w' : World} {C ba bb : Nat} {kv : Value} {kl' : List Value} (T : PTell W f cap N Inv) (h : EaV W st Inv d g c w C ba bb) (hb : Below w.heap.size w w') (hk : OwnV 51 w w' kv kl') : KlI W Inv kv kl' C ba bb w' (.slice (some ⟨g, 0, none⟩) st.length c) d st :=
  let h' := h.step T hb
  ⟨h'.own, fun e => h'.ne (Option.some.inj e), h'.blk, hk.base h.bel.size, h'.inv, h'.bel⟩
theorem KlI.push {W : World} {f : FuncId} {cap : Array Value} {N : Nat} {st : List Cp} {Inv : List (En × En) → World → Prop} {d : List (En × En)} {w X w' : World} {C ba bb : Nat} {kv ov v' : Value} {kl' : List Value} {x : Cp} (T : PTell W f cap N Inv) (h : KlI W Inv kv kl' C ba bb w ov d st)
    (hb : Below w.heap.size w X) (ho : OwnQ W w' v' (st ++ [x])) (hg : X.grownBy w' ov.ownBlock) (hne : x.1.1 ≠ ba ∨ x.2.1 ≠ bb) : KlI W Inv kv kl' C ba bb w' v' d (st ++ [x]) := by
  have hoX := h.own.below hb
  have hkq := (Kq.of hb).trans (Kq.grown hoX hg)
  have hcX := (hb.block C (lt_of_block h.blk)).trans h.blk
  have hc := (hg.block C (lt_of_block hcX) (fun e => h.ne e.symm)).trans hcX
  exact ⟨ho, ho.unlike (y := ((ba, []), (bb, []))) hc hne, hc, h.row.keepBlock fun b cur hb' => (hkq.keep b cur _ _ hb' (by decide)).trans hb'.symm, T.step _ _ _ h.inv hkq, hoX.grown (h.bel.trans (hb.mono h.bel.size)) hg⟩
theorem gap_far {w : World} {k ba bb far : Nat} {la lb : List En} (hA : Nd w k ba la) (hB : Nd w k bb lb) (h : far < gapL la lb) : prsL far la lb = [] :=
  prs_none fun e he f hf => Nat.lt_of_lt_of_le h (gap_le (hA.et.len e he) (hB.et.len f hf) (hA.cut e he) (hB.cut f hf))
theorem cp_pos {W : World} {k : Nat} {st : List Cp} (h : ∀ x ∈ st, Nd W k x.1.1 x.1.2 ∧ Nd W k x.2.1 x.2.2) : ∀ x ∈ st, 1 ≤ x.1.2.length ∧ 1 ≤ x.2.2.length := fun x hx => ⟨List.length_pos_iff.2 (h x hx).1.ne, List.length_pos_iff.2 (h x hx).2.ne⟩
set_option maxHeartbeats 8000000 in
theorem each_pairs (W w : World) (f : FuncId) (cap : Array Value) (N k ta tb far : Nat) (la lb : List En) (Inv : List (En × En) → World → Prop) (T : PTell W f cap N Inv)
    (hA : TrR W ta k la) (hB : TrR W tb k lb) (hi : Inv [] w) (hb : Below W.heap.size W w) (h1 : la.length ≤ 100) (h2 : lb.length ≤ 100) (hN : (prsL far la lb).length ≤ N) (hfar : far < 2 ^ 64) :
    Calls Try.prog 12 #[.pointer (some ⟨ta, 0, none⟩), .pointer (some ⟨tb, 0, none⟩), .int .u64 (far : Nat), .func (.func f) #[] cap] w fun e w' => e = .returned (.tuple #[]) ∧ ∃ d, d.Perm (prsL far la lb) ∧ Inv d w' ∧ Below W.heap.size W w' := by
  obtain ⟨ra, ca, hra⟩ := hA.c1
  obtain ⟨rb, cb, hrb⟩ := hB.c1
  have ka := Below.keeps hb _ _ ca
  have kb := Below.keeps hb _ _ cb
  have HI := Lib.hid (And.intro hi (And.intro hb (And.intro h1 h2)))
  have HT := Lib.hid T
  have HK := Lib.hid (And.intro hA.k1 (And.intro hA.k16 (And.intro hN hfar)))
  have hent := T.ent
  have HR0 := Lib.hid (And.intro hra hrb)
  obtain ⟨qa, hqa⟩ := pv_ex ra
  obtain ⟨qb, hqb⟩ := pv_ex rb
  have HQ := Lib.hid (And.intro hqa hqb)
  rw [hqa] at ka
  rw [hqb] at kb
  have HA0 := Lib.hid (troot_any w ta qa ka)
  have HB0 := Lib.hid (troot_any w tb qb kb)
  clear T hA hB hi hb h1 h2 hN hfar ca cb hra hrb ka kb hqa hqb
  go_enter Try.func12, Try.ntmps12
  refine wp_scope_jumpsN 0 (fun n9 a' w' => ∃ (d : PrL) (st : CpL) (ov : Value) (u4 u5 u6 u7 u9 u10 u11 u12 u13 u14 u15 u16 u17 u18 u19 u20 u21 u22 u23 u24 u25 u26 u27 u28 u29 u30 u31 u32 u33 u34 u35 u36 u37 u38 u39 u40 u41 u42 u43 u44 u45 u46 u47 u48 u49 u50 u51 u52 u53 u54 u55 u56 u57 u58 u59 u60 u61 u62 u63 u64 u65 u66 u67 u68 u69 u70 u71 u72 u73 u74 u75 u76 u77 u78 u79 u80 u81 u82 u83 u84 u85 u86 u87 u88 u89 u90 u91 u92 u93 u94 u95 u96 u97 u98 u99 u100 u101 u102 u103 u104 u105 u106 u107 u108 u109 u110 u111 u112 u113 u114 u115 u116 u117 u118 u119 u120 u121 u122 u123 : Value), a' = { tmps := #[.pointer (some ⟨ta, 0, none⟩), .pointer (some ⟨tb, 0, none⟩), .int .u64 (far : Nat), .func (.func f) #[] cap, u4, u5, u6, u7, ov, u9, u10, u11, u12, u13, u14, u15, u16, u17, u18, u19, u20, u21, u22, u23, u24, u25, u26, u27, u28, u29, u30, u31, u32, u33, u34, u35, u36, u37, u38, u39, u40, u41, u42, u43, u44, u45, u46, u47, u48, u49, u50, u51, u52, u53, u54, u55, u56, u57, u58, u59, u60, u61, u62, u63, u64, u65, u66, u67, u68, u69, u70, u71, u72, u73, u74, u75, u76, u77, u78, u79, u80, u81, u82, u83, u84, u85, u86, u87, u88, u89, u90, u91, u92, u93, u94, u95, u96, u97, u98, u99, u100, u101, u102, u103, u104, u105, u106, u107, u108, u109, u110, u111, u112, u113, u114, u115, u116, u117, u118, u119, u120, u121, u122, u123], defers := [] } ∧ EaI W k far Inv (prsL far la lb) n9 w' ov d st) rfl ?_ ?_
  · intro n9 a' w' hJ
    obtain ⟨d, st, ov, u4, u5, u6, u7, u9, u10, u11, u12, u13, u14, u15, u16, u17, hJ⟩ := hJ
    obtain ⟨u18, u19, u20, u21, u22, u23, u24, u25, u26, u27, u28, u29, u30, u31, u32, u33, hJ⟩ := hJ
    obtain ⟨u34, u35, u36, u37, u38, u39, u40, u41, u42, u43, u44, u45, u46, u47, u48, u49, hJ⟩ := hJ
    obtain ⟨u50, u51, u52, u53, u54, u55, u56, u57, u58, u59, u60, u61, u62, u63, u64, u65, hJ⟩ := hJ
    obtain ⟨u66, u67, u68, u69, u70, u71, u72, u73, u74, u75, u76, u77, u78, u79, u80, u81, hJ⟩ := hJ
    obtain ⟨u82, u83, u84, u85, u86, u87, u88, u89, u90, u91, u92, u93, u94, u95, u96, u97, hJ⟩ := hJ
    obtain ⟨u98, u99, u100, u101, u102, u103, u104, u105, u106, u107, u108, u109, u110, u111, u112, u113, hJ⟩ := hJ
    obtain ⟨u114, u115, u116, u117, u118, u119, u120, u121, u122, u123, hJ⟩ := hJ
    obtain ⟨rfl, hJ⟩ := hJ
    obtain hJ := hJ
    rcases List.eq_nil_or_concat st with rfl | ⟨st0, ⟨⟨ba, la'⟩, ⟨bb, lb'⟩⟩, rfl⟩
    · obtain ⟨A, c, rfl⟩ := hJ.own.shape
      have HR := Lib.hid hJ
      clear hJ
      simp only [List.length_nil]
      go_wp2_with fail
      simp only [Exit.jump]
      refine bodyPost_ret (results_none rfl _ _ _) rfl ?_
      refine ⟨rfl, d, ?_, HR.out.inv, HR.out.bel⟩
      have := HR.out.perm
      unfold flatP at this
      simpa using this
    · rw [List.concat_eq_append] at hJ
      obtain ⟨g, c, rfl, k0, k1, hown, hcap, hmx⟩ := hJ.own.last
      have hgl := World.block_lt_of_cell? w' _ k0
      have hna : Nd W k ba la' := (hJ.nds ((ba, la'), (bb, lb')) (by simp)).1
      have hnb : Nd W k bb lb' := (hJ.nds ((ba, la'), (bb, lb')) (by simp)).2
      have hnd0 : ∀ x ∈ st0, Nd W k x.1.1 x.1.2 ∧ Nd W k x.2.1 x.2.2 := fun x hx => hJ.nds x (by simp [hx])
      have hst := wts_len (cp_pos hJ.nds)
      have hwt := hJ.wt
      have hsm := hJ.sm
      have hws : wts (st0 ++ [((ba, la'), (bb, lb'))]) = wts st0 + wtP ((ba, la'), (bb, lb')) := by rw [wts_append, wts_one]
      have hwp : 1 ≤ wtP ((ba, la'), (bb, lb')) := wt_pos (x := ((ba, la'), (bb, lb'))) (List.length_pos_iff.2 hna.ne) (List.length_pos_iff.2 hnb.ne)
      have hsl : st0.length ≤ 40000 := by rw [List.length_append, List.length_singleton] at hst; omega
      have hperm : (d ++ (flatP far st0 ++ prsL far la' lb')).Perm (prsL far la lb) := by
        have h5 := hJ.perm
        rw [flatP_append] at h5
        have h6 : flatP far [((ba, la'), (bb, lb'))] = prsL far la' lb' := by unfold flatP; simp
        rw [h6] at h5
        exact h5
      rw [hws] at hwt
      have HG := Lib.hid (fun W' (h : Below W.heap.size W W') => gap_any W' k ba bb la' lb' (hna.bel h) (hnb.bel h) HK.out.1 HK.out.2.1)
      have HW := Lib.hid (And.intro hwt (And.intro hsm (And.intro hwp hsl)))
      have HPM := Lib.hid hperm
      have HND := Lib.hid (And.intro hna (And.intro hnb hnd0))
      have HV := Lib.hid (And.intro hown (And.intro hJ.inv hJ.bel))
      have i1 : (0 : Int) ≤ (st0.length : Int) := by omega
      have i2 : (st0.length : Int) < (st0.length : Int) + 1 := by omega
      have i3 : (st0.length : Int) ≤ (c : Int) := by omega
      have i5 : ¬ (st0.length : Int) + 1 = 0 := by omega
      have i4 : wrap64 (st0.length : Int) = (st0.length : Int) := by unfold wrap64; omega
      clear hJ hown hnd0 hst hwt hsm hws hwp hsl hperm hcap hmx hna hnb
      go_wp2_with fail
      have hbc : Below w'.heap.size w' (w'.alloc (.cells #[.pointer (some ⟨ba, 0, none⟩), .pointer (some ⟨bb, 0, none⟩)] 69)) := (by repeat (first | exact Below.refl _ _ | (refine Below.drew ?_) | (refine below_drewN' ?_ _) | (refine below_alloc' ?_ _) | (refine Below.setCell ?_ (by first | exact Nat.le_refl _ | (simp; done) | (simp; omega)) _)))
      have HV1 := Lib.hid (show EaV W st0 Inv d g c (w'.alloc (.cells #[.pointer (some ⟨ba, 0, none⟩), .pointer (some ⟨bb, 0, none⟩)] 69)) w'.heap.size ba bb from ⟨HV.out.1.below hbc, HT.out.step _ _ _ HV.out.2.1 (Kq.of hbc), HV.out.2.2.trans (hbc.mono HV.out.2.2.size), alloc_blk _ _, Nat.ne_of_lt hgl⟩)
      obtain ⟨C, hC⟩ : ∃ C, w'.heap.size = C := ⟨_, rfl⟩
      rw [hC] at HV1 ⊢
      refine (HG.out _ HV1.out.bel).mono ?_
      rintro e w2 ⟨rfl, hb2⟩
      have HV2 := Lib.hid (HV1.out.step HT.out hb2)
      clear hb2 hbc hC k0 k1 hgl i1 i2 i3 i4 i5 HV HV1
      obtain ⟨k0, k1⟩ := cell_of2 HV2.out.blk
      have hcl := lt_of_block HV2.out.blk
      have hgl := HV2.out.lt
      by_cases hg : far < gapL la' lb'
      · have j1 : (far : Int) < (gapL la' lb' : Nat) := by omega
        have HPN := Lib.hid (gap_far HND.out.1 HND.out.2.1 hg)
        clear hg
        go_wp2_with fail
        go_step3
        exact ⟨rfl, n9 - 1, by have := HW.out.1; have := HW.out.2.2.1; omega, d, st0, _, _, _, _, _, _, _, _, _, _, _, _, _, _, _, _, _, _, _, _, _, _, _, _, _, _, _, _, _, _, _, _, _, _, _, _, _, _, _, _, _, _, _, _, _, _, _, _, _, _, _, _, _, _, _, _, _, _, _, _, _, _, _, _, _, _, _, _, _, _, _, _, _, _, _, _, _, _, _, _, _, _, _, _, _, _, _, _, _, _, _, _, _, _, _, _, _, _, _, _, _, _, _, _, _, _, _, _, _, _, _, _, _, _, _, _, _, _, _, _, rfl, HV2.out.own, HND.out.2.2, by have := HPM.out; rw [HPN.out, List.append_nil] at this; exact this, HV2.out.inv, HV2.out.bel, by have := HW.out.1; have := HW.out.2.2.1; omega, by have := HW.out.2.1; omega⟩
      · have j1 : ¬ (far : Int) < (gapL la' lb' : Nat) := by omega
        have hg' : gapL la' lb' ≤ far := by omega
        clear hg
        rcases HND.out.1.two with ⟨pa, va, rfl, hda, hpa⟩ | ⟨sa, na, prea, ks, rfl, hda, hsa, hka, hna⟩
        · have HEA := Lib.hid (fun W' (h : Below W.heap.size W W') => ent_leaf W' ba k va (-1) pa (Sm.of va) (hda.keep h) hpa HK.out.1 HK.out.2.1)
          rcases HND.out.2.1.two with ⟨pb, vb, rfl, hdb, hpb⟩ | ⟨sb, nb, preb, kt, rfl, hdb, hsb, hkb, hnb⟩
          · have HEB := Lib.hid (fun W' (h : Below W.heap.size W W') => ent_leaf W' bb k vb (-1) pb (Sm.of vb) (hdb.keep h) hpb HK.out.1 HK.out.2.1)
            have HX := Lib.hid (show prsL far [⟨pa, va⟩] [⟨pb, vb⟩] = [((⟨pa, va⟩ : En), (⟨pb, vb⟩ : En))] from by
              rw [gap_one] at hg'
              unfold prsL
              simp [hg'])
            clear hg' hda hpa hdb hpb
            go_wp2_with fail
            refine (HEA.out _ HV2.out.bel).mono ?_
            rintro e w3 ⟨ua, rfl, hua, hb3⟩
            obtain ⟨Aa, ca, rfl, _⟩ := RdU.point hua.rd
            have HV3 := Lib.hid (HV2.out.step HT.out hb3)
            have HU3 := Lib.hid hua
            clear hb3 hua
            obtain ⟨k0, k1⟩ := cell_of2 HV3.out.blk
            have hcl := lt_of_block HV3.out.blk
            go_wp2_with fail
            have hb3 : Below w3.heap.size w3 (w3.alloc (.cells #[.slice Aa pa.length ca, .int .u64 (va : Nat)] 44)) := (by repeat (first | exact Below.refl _ _ | (refine Below.drew ?_) | (refine below_drewN' ?_ _) | (refine below_alloc' ?_ _) | (refine Below.setCell ?_ (by first | exact Nat.le_refl _ | (simp; done) | (simp; omega)) _)))
            refine (HEB.out _ (HV3.out.bel.trans (hb3.mono HV3.out.bel.size))).mono ?_
            rintro e w4 ⟨ub, rfl, hub, hb4⟩
            obtain ⟨Ab, cb, rfl, _⟩ := RdU.point hub.rd
            have HV4 := Lib.hid ((HV3.out.step HT.out hb3).step HT.out hb4)
            have HU4 := Lib.hid (And.intro ((HU3.out.below hb3).below hb4) hub)
            have hx1 := (hb4.block _ (by simp)).trans (alloc_blk w3 (.cells #[.slice Aa pa.length ca, .int .u64 (va : Nat)] 44))
            obtain ⟨X1, hX1⟩ : ∃ x, w3.heap.size = x := ⟨_, rfl⟩
            rw [hX1] at hx1 ⊢
            obtain ⟨x1, x2⟩ := cell_of2 hx1
            have hxl := lt_of_block hx1
            clear hb3 hb4 hub hx1 hX1 k0 k1 hcl
            go_wp2_with fail
            have hb5 : Below w4.heap.size w4 (w4.alloc (.cells #[.slice Ab pb.length cb, .int .u64 (vb : Nat)] 44)) := (by repeat (first | exact Below.refl _ _ | (refine Below.drew ?_) | (refine below_drewN' ?_ _) | (refine below_alloc' ?_ _) | (refine Below.setCell ?_ (by first | exact Nat.le_refl _ | (simp; done) | (simp; omega)) _)))
            have HV5 := Lib.hid (HV4.out.step HT.out hb5)
            have hlen : d.length < N := by
              have h5 := HPM.out.length_eq
              rw [HX.out] at h5
              have h6 := HK.out.2.2.1
              simp only [List.length_append, List.length_singleton] at h5
              omega
            refine (HT.out.tell d ((⟨pa, va⟩ : En), (⟨pb, vb⟩ : En)) _ _ _ hlen HV5.out.inv HV5.out.bel (HU4.out.1.below hb5) (HU4.out.2.below hb5)).mono ?_
            rintro e w6 ⟨rfl, hi6, hb6, hq6⟩
            have HV6 := Lib.hid (And.intro (HV5.out.own.keepBlock hq6) (And.intro hi6 hb6))
            clear hb5 hlen hi6 hb6 hq6
            go_wp2_with fail
            go_step3
            exact ⟨rfl, n9 - 1, by have := HW.out.1; have := HW.out.2.2.1; omega, d ++ [((⟨pa, va⟩ : En), (⟨pb, vb⟩ : En))], st0, _, _, _, _, _, _, _, _, _, _, _, _, _, _, _, _, _, _, _, _, _, _, _, _, _, _, _, _, _, _, _, _, _, _, _, _, _, _, _, _, _, _, _, _, _, _, _, _, _, _, _, _, _, _, _, _, _, _, _, _, _, _, _, _, _, _, _, _, _, _, _, _, _, _, _, _, _, _, _, _, _, _, _, _, _, _, _, _, _, _, _, _, _, _, _, _, _, _, _, _, _, _, _, _, _, _, _, _, _, _, _, _, _, _, _, _, _, _, _, _, rfl, HV6.out.1, HND.out.2.2, by
              have h5 := HPM.out
              rw [HX.out] at h5
              rw [List.append_assoc]
              exact (List.Perm.append_left d List.perm_append_comm).trans h5, HV6.out.2.1, HV6.out.2.2, by have := HW.out.1; have := HW.out.2.2.1; omega, by have := HW.out.2.1; omega⟩
          · have HEB := Lib.hid (fun W' (h : Below W.heap.size W W') => ent_node W' bb sb (Below.keeps h _ _ hdb.c3))
            have hln : kt.length ≤ 40000 := by
              have h1 := cat_length (kt.map kl) hkb.ne
              rw [List.length_map] at h1
              have h2 := wtP_B (x := ((ba, [(⟨pa, va⟩ : En)]), (bb, cat (kt.map kl)))) (List.length_pos_iff.2 HND.out.1.ne) (List.length_pos_iff.2 HND.out.2.1.ne)
              have h3 := HW.out.1
              have h4 := HW.out.2.1
              simp only at h2
              omega
            have HKD := Lib.hid (fun W' (h : Below W.heap.size W W') => pkids_any W' bb sb k kt (Below.keeps h _ _ hdb.c3) (hsb.below h) (Nat.le_trans hln (by omega)))
            have HKN := Lib.hid (show kt.map kidV ≠ [] from fun h => by have := hkb.two; rw [List.length_map] at this; rw [List.map_eq_nil_iff.1 h] at this; simp at this)
            have HKP := Lib.hid (show ∀ x ∈ kt, x.2.1 ≠ bb from fun x hx h => by
              have h1 := (hnb x hx)
              rw [h] at h1
              have h2 := h1.uniq HND.out.2.1
              have h3 := hkb.kid_lt (List.mem_map_of_mem hx)
              have h4 : (kl x).2 = x.2.2 := rfl
              rw [h4, h2] at h3
              omega)
            have HKL := Lib.hid (show kt.length ≤ 40000 from hln)
            have HSL := Lib.hid (show ∀ j, (st0 ++ (spB (ba, [(⟨pa, va⟩ : En)]) kt).take j).length ≤ 80000 from fun j => by
              have h1 := HW.out.2.2.2
              have h2 := hln
              rw [List.length_append, List.length_take]
              have h3 : (spB (ba, [(⟨pa, va⟩ : En)]) kt).length = kt.length := List.length_map ..
              omega)
            have HWT := Lib.hid (show wts (spB (ba, [(⟨pa, va⟩ : En)]) kt) < wtP ((ba, [(⟨pa, va⟩ : En)]), (bb, cat (kt.map kl))) from wts_spB hkb _ (List.length_pos_iff.2 HND.out.1.ne))
            have HNS := Lib.hid (show ∀ x ∈ st0 ++ spB (ba, [(⟨pa, va⟩ : En)]) kt, Nd W k x.1.1 x.1.2 ∧ Nd W k x.2.1 x.2.2 from fun x hx => by
              rcases List.mem_append.1 hx with hx | hx
              · exact HND.out.2.2 x hx
              · obtain ⟨y, hy, rfl⟩ := List.mem_map.1 hx
                exact ⟨HND.out.1, hnb y hy⟩)
            have HPF := Lib.hid (show (d ++ flatP far (st0 ++ spB (ba, [(⟨pa, va⟩ : En)]) kt)).Perm (prsL far la lb) from by
              have h5 := HPM.out
              rw [flatP_append]
              exact (List.Perm.append_left d (List.Perm.append_left _ (flat_spB far kt (ba, _)).symm)).trans h5)
            clear hln
            clear hg' hda hpa hdb hsb hkb hnb
            go_wp2_with fail
            refine (HEA.out _ HV2.out.bel).mono ?_
            rintro e w3 ⟨ua, rfl, hu, hb⟩
            obtain ⟨Aa, ca, rfl, _⟩ := RdU.point hu.rd
            have hv := HV2.out.step HT.out hb
            obtain ⟨k0, k1⟩ := cell_of2 hv.blk
            have hcl := lt_of_block hv.blk
            have HV4 := Lib.hid (hv.step HT.out ((by repeat (first | exact Below.refl _ _ | (refine Below.drew ?_) | (refine below_drewN' ?_ _) | (refine below_alloc' ?_ _) | (refine Below.setCell ?_ (by first | exact Nat.le_refl _ | (simp; done) | (simp; omega)) _))) : Below w3.heap.size w3 (w3.alloc (.cells #[.slice Aa pa.length ca, .int .u64 (va : Nat)] 44))))
            clear hu hv hb
            go_wp2_with fail
            refine (HEB.out _ HV4.out.bel).mono ?_
            rintro e w5 ⟨rfl, hb⟩
            have hv := HV4.out.step HT.out hb
            obtain ⟨k0, k1⟩ := cell_of2 hv.blk
            have hcl := lt_of_block hv.blk
            have HV6 := Lib.hid (hv.step HT.out ((by repeat (first | exact Below.refl _ _ | (refine Below.drew ?_) | (refine below_drewN' ?_ _) | (refine below_alloc' ?_ _) | (refine Below.setCell ?_ (by first | exact Nat.le_refl _ | (simp; done) | (simp; omega)) _))) : Below w5.heap.size w5 (w5.alloc (.cells #[.slice none 0 0, .int .u64 0] 44))))
            clear hv hb
            go_wp2_with fail
            go_quiet (fail)
            have HV7 := Lib.hid (HV6.out.step HT.out (below_drewN' (Below.refl _ _) nq))
            go_wp2_with fail
            refine (HKD.out _ HV7.out.bel).mono ?_
            rintro e w8 ⟨kv, rfl, hkv, hb⟩
            have hkn : kt.map kidV ≠ [] := HKN.out
            obtain ⟨gk, nk, rfl, _, _⟩ := hkv.cells hkn
            rw [List.length_map] at hkv ⊢
            have HL := Lib.hid (KlI.mk0 HT.out HV7.out hb hkv)
            clear hkv hb hkn
            go_wp2_with fail
            go_loopw [8, 17, 71] (fun ov _ iv wr => ∃ j : Nat, j ≤ kt.length ∧ iv = .int .i64 (j : Nat) ∧ KlI W Inv (.slice (some ⟨gk, 0, none⟩) kt.length nk) (kt.map kidV) C ba bb wr ov d (st0 ++ (spB (ba, [(⟨pa, va⟩ : En)]) kt).take j)) (fun _ _ iv _ => kt.length - (intOf iv).toNat)
            case atStart => exact ⟨0, Nat.zero_le _, rfl, by rw [List.take_zero, List.append_nil]; exact HL.out⟩
            case round =>
              obtain ⟨j, hj, rfl, hR⟩ := hrel
              have HR := Lib.hid hR
              by_cases hlt : j < kt.length
              · have kj := OwnV.cellsAt hR.row HKN.out j (by rw [List.length_map]; exact hlt)
                rw [List.getElem_map] at kj
                obtain ⟨B, hB⟩ : ∃ B, kt[j].2.1 = B := ⟨_, rfl⟩
                obtain ⟨lx, hlx⟩ : ∃ lx, kt[j].2.2 = lx := ⟨_, rfl⟩
                replace kj : wr.cell? ⟨gk, j, none⟩ = some (.pointer (some ⟨B, 0, none⟩)) := by rw [← hB]; exact kj
                have HTK := Lib.hid (show st0 ++ (spB (ba, [(⟨pa, va⟩ : En)]) kt).take (j + 1) = (st0 ++ (spB (ba, [(⟨pa, va⟩ : En)]) kt).take j) ++ [((ba, [(⟨pa, va⟩ : En)]), (B, lx))] by
                  rw [List.append_assoc, ← List.take_append_getElem (by unfold spB; rw [List.length_map]; exact hlt)]
                  congr 2
                  unfold spB
                  rw [List.getElem_map, hB, hlx])
                have HNE := Lib.hid (show B ≠ bb from hB ▸ HKP.out _ (List.getElem_mem hlt))
                have hsl := HSL.out j
                obtain ⟨Ao, co, rfl⟩ := hR.own.shape
                obtain ⟨n0, hn0⟩ : ∃ n, (st0 ++ (spB (ba, [(⟨pa, va⟩ : En)]) kt).take j).length = n := ⟨_, rfl⟩
                have HN0 := Lib.hid (show n0 ≤ 80000 by rw [← hn0]; exact hsl)
                rw [hn0] at HR ⊢
                obtain ⟨k0, k1⟩ := cell_of2 hR.blk
                have hcl := lt_of_block hR.blk
                have hkl := World.block_lt_of_cell? wr _ kj
                have g1 : (j : Int) < (kt.length : Int) := by omega
                have g2 : (0 : Int) ≤ (j : Int) := by omega
                have HJ := Lib.hid hlt
                have HN := Lib.hid hn0
                have HW1 := Lib.hid (show wrap64 ((j : Int) + 1) = ((j + 1 : Nat) : Int) by have := HKL.out; unfold wrap64; omega)
                clear hR hlx hB hj hsl hn0 hlt
                go_wp2_with (at_builtin; refine wpList_append_Q rfl (.tmp 75) (.tmp 80) rfl W (st0 ++ (spB (ba, [(⟨pa, va⟩ : En)]) kt).take j) ((ba, [(⟨pa, va⟩ : En)]), (B, lx)) ?_ ?_ ?_ ?_ ?_)
                · exact HR.out.own.below (by repeat (first | exact Below.refl _ _ | (refine Below.drew ?_) | (refine below_drewN' ?_ _) | (refine below_alloc' ?_ _) | (refine Below.setCell ?_ (by first | exact Nat.le_refl _ | (simp; done) | (simp; omega)) _)))
                · exact ⟨_, _, rfl, by simp [go_sem], by simp [go_sem]⟩
                · have := HR.out.bel.size; simp; omega
                · have := HSL.out j; rw [List.length_append, List.length_take] at this; (first | omega | (simp only [List.length_append, List.length_take]; omega))
                intro v' w9 hown' hg
                have hown2 : OwnQ W w9 v' (st0 ++ (spB (ba, [(⟨pa, va⟩ : En)]) kt).take j ++ [((ba, [(⟨pa, va⟩ : En)]), (B, lx))]) := by first | exact hown' | (rw [List.append_assoc]; exact hown')
                have HP := Lib.hid (HR.out.push (x := ((ba, [(⟨pa, va⟩ : En)]), (B, lx))) HT.out ((by repeat (first | exact Below.refl _ _ | (refine Below.drew ?_) | (refine below_drewN' ?_ _) | (refine below_alloc' ?_ _) | (refine Below.setCell ?_ (by first | exact Nat.le_refl _ | (simp; done) | (simp; omega)) _))) : Below wr.heap.size wr _) hown2 hg (Or.inr HNE.out))
                rw [← HTK.out] at HP
                obtain ⟨A9, c9, rfl⟩ := hown'.shape
                clear hown' hown2 hg
                go_wp2_with fail
                go_roundw
                case rel => exact ⟨j + 1, by have := HJ.out; omega, (by rw [HW1.out]), HP.out⟩
                case measure => rw [HW1.out, intOf_nat, intOf_nat]; have := HJ.out; omega
              · have e : (spB (ba, [(⟨pa, va⟩ : En)]) kt).take j = spB (ba, [(⟨pa, va⟩ : En)]) kt := List.take_of_length_le (by unfold spB; rw [List.length_map]; omega)
                rw [e] at HR
                have g1 : ¬ (j : Int) < (kt.length : Int) := by omega
                clear hR e hj hlt
                go_wp2_with fail
                go_step3
                exact ⟨rfl, wts (st0 ++ spB (ba, [(⟨pa, va⟩ : En)]) kt), by rw [wts_append]; have := HW.out.1; have := HWT.out; omega, d, st0 ++ spB (ba, [(⟨pa, va⟩ : En)]) kt, _, _, _, _, _, _, _, _, _, _, _, _, _, _, _, _, _, _, _, _, _, _, _, _, _, _, _, _, _, _, _, _, _, _, _, _, _, _, _, _, _, _, _, _, _, _, _, _, _, _, _, _, _, _, _, _, _, _, _, _, _, _, _, _, _, _, _, _, _, _, _, _, _, _, _, _, _, _, _, _, _, _, _, _, _, _, _, _, _, _, _, _, _, _, _, _, _, _, _, _, _, _, _, _, _, _, _, _, _, _, _, _, _, _, _, _, _, _, _, _, rfl, HR.out.own, HNS.out, HPF.out, HR.out.inv, HR.out.bel, Nat.le_refl _, by rw [wts_append]; have := HW.out; have := HWT.out; omega⟩
        · have HEA := Lib.hid (fun W' (h : Below W.heap.size W W') => ent_node W' ba sa (Below.keeps h _ _ hda.c3))
          rcases HND.out.2.1.two with ⟨pb, vb, rfl, hdb, hpb⟩ | ⟨sb, nb, preb, kt, rfl, hdb, hsb, hkb, hnb⟩
          · have HEB := Lib.hid (fun W' (h : Below W.heap.size W W') => ent_leaf W' bb k vb (-1) pb (Sm.of vb) (hdb.keep h) hpb HK.out.1 HK.out.2.1)
            have hln : ks.length ≤ 40000 := by
              have h1 := cat_length (ks.map kl) hka.ne
              rw [List.length_map] at h1
              have h2 := wtP_A (x := ((ba, cat (ks.map kl)), (bb, [(⟨pb, vb⟩ : En)]))) (List.length_pos_iff.2 HND.out.1.ne) (List.length_pos_iff.2 HND.out.2.1.ne)
              have h3 := HW.out.1
              have h4 := HW.out.2.1
              simp only at h2
              omega
            have HKD := Lib.hid (fun W' (h : Below W.heap.size W W') => pkids_any W' ba sa k ks (Below.keeps h _ _ hda.c3) (hsa.below h) (Nat.le_trans hln (by omega)))
            have HKN := Lib.hid (show ks.map kidV ≠ [] from fun h => by have := hka.two; rw [List.length_map] at this; rw [List.map_eq_nil_iff.1 h] at this; simp at this)
            have HKP := Lib.hid (show ∀ x ∈ ks, x.2.1 ≠ ba from fun x hx h => by
              have h1 := (hna x hx)
              rw [h] at h1
              have h2 := h1.uniq HND.out.1
              have h3 := hka.kid_lt (List.mem_map_of_mem hx)
              have h4 : (kl x).2 = x.2.2 := rfl
              rw [h4, h2] at h3
              omega)
            have HKL := Lib.hid (show ks.length ≤ 40000 from hln)
            have HSL := Lib.hid (show ∀ j, (st0 ++ (spA ks (bb, [(⟨pb, vb⟩ : En)])).take j).length ≤ 80000 from fun j => by
              have h1 := HW.out.2.2.2
              have h2 := hln
              rw [List.length_append, List.length_take]
              have h3 : (spA ks (bb, [(⟨pb, vb⟩ : En)])).length = ks.length := List.length_map ..
              omega)
            have HWT := Lib.hid (show wts (spA ks (bb, [(⟨pb, vb⟩ : En)])) < wtP ((ba, cat (ks.map kl)), (bb, [(⟨pb, vb⟩ : En)])) from wts_spA hka _ (List.length_pos_iff.2 HND.out.2.1.ne))
            have HNS := Lib.hid (show ∀ x ∈ st0 ++ spA ks (bb, [(⟨pb, vb⟩ : En)]), Nd W k x.1.1 x.1.2 ∧ Nd W k x.2.1 x.2.2 from fun x hx => by
              rcases List.mem_append.1 hx with hx | hx
              · exact HND.out.2.2 x hx
              · obtain ⟨y, hy, rfl⟩ := List.mem_map.1 hx
                exact ⟨hna y hy, HND.out.2.1⟩)
            have HPF := Lib.hid (show (d ++ flatP far (st0 ++ spA ks (bb, [(⟨pb, vb⟩ : En)]))).Perm (prsL far la lb) from by
              have h5 := HPM.out
              rw [flatP_append]
              rw [flat_spA]; exact h5)
            clear hln
            clear hg' hda hpb hdb hsa hka hna
            go_wp2_with fail
            refine (HEA.out _ HV2.out.bel).mono ?_
            rintro e w3 ⟨rfl, hb⟩
            have hv := HV2.out.step HT.out hb
            obtain ⟨k0, k1⟩ := cell_of2 hv.blk
            have hcl := lt_of_block hv.blk
            have HV4 := Lib.hid (hv.step HT.out ((by repeat (first | exact Below.refl _ _ | (refine Below.drew ?_) | (refine below_drewN' ?_ _) | (refine below_alloc' ?_ _) | (refine Below.setCell ?_ (by first | exact Nat.le_refl _ | (simp; done) | (simp; omega)) _))) : Below w3.heap.size w3 (w3.alloc (.cells #[.slice none 0 0, .int .u64 0] 44))))
            clear hv hb
            go_wp2_with fail
            refine (HEB.out _ HV4.out.bel).mono ?_
            rintro e w5 ⟨ub, rfl, hu, hb⟩
            obtain ⟨Ab, cb, rfl, _⟩ := RdU.point hu.rd
            have hv := HV4.out.step HT.out hb
            obtain ⟨k0, k1⟩ := cell_of2 hv.blk
            have hcl := lt_of_block hv.blk
            have HV6 := Lib.hid (hv.step HT.out ((by repeat (first | exact Below.refl _ _ | (refine Below.drew ?_) | (refine below_drewN' ?_ _) | (refine below_alloc' ?_ _) | (refine Below.setCell ?_ (by first | exact Nat.le_refl _ | (simp; done) | (simp; omega)) _))) : Below w5.heap.size w5 (w5.alloc (.cells #[.slice Ab pb.length cb, .int .u64 (vb : Nat)] 44))))
            clear hu hv hb
            go_wp2_with fail
            go_quiet (fail)
            have HV7 := Lib.hid (HV6.out.step HT.out (below_drewN' (Below.refl _ _) nq))
            go_wp2_with fail
            refine (HKD.out _ HV7.out.bel).mono ?_
            rintro e w8 ⟨kv, rfl, hkv, hb⟩
            have hkn : ks.map kidV ≠ [] := HKN.out
            obtain ⟨gk, nk, rfl, _, _⟩ := hkv.cells hkn
            rw [List.length_map] at hkv ⊢
            have HL := Lib.hid (KlI.mk0 HT.out HV7.out hb hkv)
            clear hkv hb hkn
            go_wp2_with fail
            go_loopw [8, 15, 112] (fun ov _ iv wr => ∃ j : Nat, j ≤ ks.length ∧ iv = .int .i64 (j : Nat) ∧ KlI W Inv (.slice (some ⟨gk, 0, none⟩) ks.length nk) (ks.map kidV) C ba bb wr ov d (st0 ++ (spA ks (bb, [(⟨pb, vb⟩ : En)])).take j)) (fun _ _ iv _ => ks.length - (intOf iv).toNat)
            case atStart => exact ⟨0, Nat.zero_le _, rfl, by rw [List.take_zero, List.append_nil]; exact HL.out⟩
            case round =>
              obtain ⟨j, hj, rfl, hR⟩ := hrel
              have HR := Lib.hid hR
              by_cases hlt : j < ks.length
              · have kj := OwnV.cellsAt hR.row HKN.out j (by rw [List.length_map]; exact hlt)
                rw [List.getElem_map] at kj
                obtain ⟨B, hB⟩ : ∃ B, ks[j].2.1 = B := ⟨_, rfl⟩
                obtain ⟨lx, hlx⟩ : ∃ lx, ks[j].2.2 = lx := ⟨_, rfl⟩
                replace kj : wr.cell? ⟨gk, j, none⟩ = some (.pointer (some ⟨B, 0, none⟩)) := by rw [← hB]; exact kj
                have HTK := Lib.hid (show st0 ++ (spA ks (bb, [(⟨pb, vb⟩ : En)])).take (j + 1) = (st0 ++ (spA ks (bb, [(⟨pb, vb⟩ : En)])).take j) ++ [((B, lx), (bb, [(⟨pb, vb⟩ : En)]))] by
                  rw [List.append_assoc, ← List.take_append_getElem (by unfold spA; rw [List.length_map]; exact hlt)]
                  congr 2
                  unfold spA
                  rw [List.getElem_map, hB, hlx])
                have HNE := Lib.hid (show B ≠ ba from hB ▸ HKP.out _ (List.getElem_mem hlt))
                have hsl := HSL.out j
                obtain ⟨Ao, co, rfl⟩ := hR.own.shape
                obtain ⟨n0, hn0⟩ : ∃ n, (st0 ++ (spA ks (bb, [(⟨pb, vb⟩ : En)])).take j).length = n := ⟨_, rfl⟩
                have HN0 := Lib.hid (show n0 ≤ 80000 by rw [← hn0]; exact hsl)
                rw [hn0] at HR ⊢
                obtain ⟨k0, k1⟩ := cell_of2 hR.blk
                have hcl := lt_of_block hR.blk
                have hkl := World.block_lt_of_cell? wr _ kj
                have g1 : (j : Int) < (ks.length : Int) := by omega
                have g2 : (0 : Int) ≤ (j : Int) := by omega
                have HJ := Lib.hid hlt
                have HN := Lib.hid hn0
                have HW1 := Lib.hid (show wrap64 ((j : Int) + 1) = ((j + 1 : Nat) : Int) by have := HKL.out; unfold wrap64; omega)
                clear hR hlx hB hj hsl hn0 hlt
                go_wp2_with (at_builtin; refine wpList_append_Q rfl (.tmp 116) (.tmp 121) rfl W (st0 ++ (spA ks (bb, [(⟨pb, vb⟩ : En)])).take j) ((B, lx), (bb, [(⟨pb, vb⟩ : En)])) ?_ ?_ ?_ ?_ ?_)
                · exact HR.out.own.below (by repeat (first | exact Below.refl _ _ | (refine Below.drew ?_) | (refine below_drewN' ?_ _) | (refine below_alloc' ?_ _) | (refine Below.setCell ?_ (by first | exact Nat.le_refl _ | (simp; done) | (simp; omega)) _)))
                · exact ⟨_, _, rfl, by simp [go_sem], by simp [go_sem]⟩
                · have := HR.out.bel.size; simp; omega
                · have := HSL.out j; rw [List.length_append, List.length_take] at this; (first | omega | (simp only [List.length_append, List.length_take]; omega))
                intro v' w9 hown' hg
                have hown2 : OwnQ W w9 v' (st0 ++ (spA ks (bb, [(⟨pb, vb⟩ : En)])).take j ++ [((B, lx), (bb, [(⟨pb, vb⟩ : En)]))]) := by first | exact hown' | (rw [List.append_assoc]; exact hown')
                have HP := Lib.hid (HR.out.push (x := ((B, lx), (bb, [(⟨pb, vb⟩ : En)]))) HT.out ((by repeat (first | exact Below.refl _ _ | (refine Below.drew ?_) | (refine below_drewN' ?_ _) | (refine below_alloc' ?_ _) | (refine Below.setCell ?_ (by first | exact Nat.le_refl _ | (simp; done) | (simp; omega)) _))) : Below wr.heap.size wr _) hown2 hg (Or.inl HNE.out))
                rw [← HTK.out] at HP
                obtain ⟨A9, c9, rfl⟩ := hown'.shape
                clear hown' hown2 hg
                go_wp2_with fail
                go_roundw
                case rel => exact ⟨j + 1, by have := HJ.out; omega, (by rw [HW1.out]), HP.out⟩
                case measure => rw [HW1.out, intOf_nat, intOf_nat]; have := HJ.out; omega
              · have e : (spA ks (bb, [(⟨pb, vb⟩ : En)])).take j = spA ks (bb, [(⟨pb, vb⟩ : En)]) := List.take_of_length_le (by unfold spA; rw [List.length_map]; omega)
                rw [e] at HR
                have g1 : ¬ (j : Int) < (ks.length : Int) := by omega
                clear hR e hj hlt
                go_wp2_with fail
                go_step3
                exact ⟨rfl, wts (st0 ++ spA ks (bb, [(⟨pb, vb⟩ : En)])), by rw [wts_append]; have := HW.out.1; have := HWT.out; omega, d, st0 ++ spA ks (bb, [(⟨pb, vb⟩ : En)]), _, _, _, _, _, _, _, _, _, _, _, _, _, _, _, _, _, _, _, _, _, _, _, _, _, _, _, _, _, _, _, _, _, _, _, _, _, _, _, _, _, _, _, _, _, _, _, _, _, _, _, _, _, _, _, _, _, _, _, _, _, _, _, _, _, _, _, _, _, _, _, _, _, _, _, _, _, _, _, _, _, _, _, _, _, _, _, _, _, _, _, _, _, _, _, _, _, _, _, _, _, _, _, _, _, _, _, _, _, _, _, _, _, _, _, _, _, _, _, _, rfl, HR.out.own, HNS.out, HPF.out, HR.out.inv, HR.out.bel, Nat.le_refl _, by rw [wts_append]; have := HW.out; have := HWT.out; omega⟩
          · have HEB := Lib.hid (fun W' (h : Below W.heap.size W W') => ent_node W' bb sb (Below.keeps h _ _ hdb.c3))
            have HLA := Lib.hid (fun W' (h : Below W.heap.size W W') => nlev_any W' ba _ (Below.keeps h _ _ hda.c0))
            have HLB := Lib.hid (fun W' (h : Below W.heap.size W W') => nlev_any W' bb _ (Below.keeps h _ _ hdb.c0))
            by_cases hle : nb ≤ na
            · have g5 : (nb : Int) ≤ (na : Int) := by omega
              have hln : ks.length ≤ 40000 := by
                have h1 := cat_length (ks.map kl) hka.ne
                rw [List.length_map] at h1
                have h2 := wtP_A (x := ((ba, cat (ks.map kl)), (bb, cat (kt.map kl)))) (List.length_pos_iff.2 HND.out.1.ne) (List.length_pos_iff.2 HND.out.2.1.ne)
                have h3 := HW.out.1
                have h4 := HW.out.2.1
                simp only at h2
                omega
              have HKD := Lib.hid (fun W' (h : Below W.heap.size W W') => pkids_any W' ba sa k ks (Below.keeps h _ _ hda.c3) (hsa.below h) (Nat.le_trans hln (by omega)))
              have HKN := Lib.hid (show ks.map kidV ≠ [] from fun h => by have := hka.two; rw [List.length_map] at this; rw [List.map_eq_nil_iff.1 h] at this; simp at this)
              have HKP := Lib.hid (show ∀ x ∈ ks, x.2.1 ≠ ba from fun x hx h => by
                have h1 := (hna x hx)
                rw [h] at h1
                have h2 := h1.uniq HND.out.1
                have h3 := hka.kid_lt (List.mem_map_of_mem hx)
                have h4 : (kl x).2 = x.2.2 := rfl
                rw [h4, h2] at h3
                omega)
              have HKL := Lib.hid (show ks.length ≤ 40000 from hln)
              have HSL := Lib.hid (show ∀ j, (st0 ++ (spA ks (bb, cat (kt.map kl))).take j).length ≤ 80000 from fun j => by
                have h1 := HW.out.2.2.2
                have h2 := hln
                rw [List.length_append, List.length_take]
                have h3 : (spA ks (bb, cat (kt.map kl))).length = ks.length := List.length_map ..
                omega)
              have HWT := Lib.hid (show wts (spA ks (bb, cat (kt.map kl))) < wtP ((ba, cat (ks.map kl)), (bb, cat (kt.map kl))) from wts_spA hka _ (List.length_pos_iff.2 HND.out.2.1.ne))
              have HNS := Lib.hid (show ∀ x ∈ st0 ++ spA ks (bb, cat (kt.map kl)), Nd W k x.1.1 x.1.2 ∧ Nd W k x.2.1 x.2.2 from fun x hx => by
                rcases List.mem_append.1 hx with hx | hx
                · exact HND.out.2.2 x hx
                · obtain ⟨y, hy, rfl⟩ := List.mem_map.1 hx
                  exact ⟨hna y hy, HND.out.2.1⟩)
              have HPF := Lib.hid (show (d ++ flatP far (st0 ++ spA ks (bb, cat (kt.map kl)))).Perm (prsL far la lb) from by
                have h5 := HPM.out
                rw [flatP_append]
                rw [flat_spA]; exact h5)
              clear hln
              clear hg' hda hdb hsa hka hna hsb hkb hnb
              go_wp2_with fail
              refine (HEA.out _ HV2.out.bel).mono ?_
              rintro e w3 ⟨rfl, hb⟩
              have hv := HV2.out.step HT.out hb
              obtain ⟨k0, k1⟩ := cell_of2 hv.blk
              have hcl := lt_of_block hv.blk
              have HV4 := Lib.hid (hv.step HT.out ((by repeat (first | exact Below.refl _ _ | (refine Below.drew ?_) | (refine below_drewN' ?_ _) | (refine below_alloc' ?_ _) | (refine Below.setCell ?_ (by first | exact Nat.le_refl _ | (simp; done) | (simp; omega)) _))) : Below w3.heap.size w3 (w3.alloc (.cells #[.slice none 0 0, .int .u64 0] 44))))
              clear hv hb
              go_wp2_with fail
              refine (HEB.out _ HV4.out.bel).mono ?_
              rintro e w5 ⟨rfl, hb⟩
              have hv := HV4.out.step HT.out hb
              obtain ⟨k0, k1⟩ := cell_of2 hv.blk
              have hcl := lt_of_block hv.blk
              have HV6 := Lib.hid (hv.step HT.out ((by repeat (first | exact Below.refl _ _ | (refine Below.drew ?_) | (refine below_drewN' ?_ _) | (refine below_alloc' ?_ _) | (refine Below.setCell ?_ (by first | exact Nat.le_refl _ | (simp; done) | (simp; omega)) _))) : Below w5.heap.size w5 (w5.alloc (.cells #[.slice none 0 0, .int .u64 0] 44))))
              clear hv hb
              go_wp2_with fail
              go_quiet ((first | with_reducible exact Calls.quiet_of_same (HLA.out _ ((HV6.out.step HT.out (below_drewN' (Below.refl _ _) _)).bel)) | with_reducible exact Calls.quiet_of_same (HLB.out _ ((HV6.out.step HT.out (below_drewN' (Below.refl _ _) _)).bel))))
              have HV7 := Lib.hid (HV6.out.step HT.out (below_drewN' (Below.refl _ _) nq))
              go_wp2_with fail
              refine (HKD.out _ HV7.out.bel).mono ?_
              rintro e w8 ⟨kv, rfl, hkv, hb⟩
              have hkn : ks.map kidV ≠ [] := HKN.out
              obtain ⟨gk, nk, rfl, _, _⟩ := hkv.cells hkn
              rw [List.length_map] at hkv ⊢
              have HL := Lib.hid (KlI.mk0 HT.out HV7.out hb hkv)
              clear hkv hb hkn
              go_wp2_with fail
              go_loopw [8, 15, 112] (fun ov _ iv wr => ∃ j : Nat, j ≤ ks.length ∧ iv = .int .i64 (j : Nat) ∧ KlI W Inv (.slice (some ⟨gk, 0, none⟩) ks.length nk) (ks.map kidV) C ba bb wr ov d (st0 ++ (spA ks (bb, cat (kt.map kl))).take j)) (fun _ _ iv _ => ks.length - (intOf iv).toNat)
              case atStart => exact ⟨0, Nat.zero_le _, rfl, by rw [List.take_zero, List.append_nil]; exact HL.out⟩
              case round =>
                obtain ⟨j, hj, rfl, hR⟩ := hrel
                have HR := Lib.hid hR
                by_cases hlt : j < ks.length
                · have kj := OwnV.cellsAt hR.row HKN.out j (by rw [List.length_map]; exact hlt)
                  rw [List.getElem_map] at kj
                  obtain ⟨B, hB⟩ : ∃ B, ks[j].2.1 = B := ⟨_, rfl⟩
                  obtain ⟨lx, hlx⟩ : ∃ lx, ks[j].2.2 = lx := ⟨_, rfl⟩
                  replace kj : wr.cell? ⟨gk, j, none⟩ = some (.pointer (some ⟨B, 0, none⟩)) := by rw [← hB]; exact kj
                  have HTK := Lib.hid (show st0 ++ (spA ks (bb, cat (kt.map kl))).take (j + 1) = (st0 ++ (spA ks (bb, cat (kt.map kl))).take j) ++ [((B, lx), (bb, cat (kt.map kl)))] by
                    rw [List.append_assoc, ← List.take_append_getElem (by unfold spA; rw [List.length_map]; exact hlt)]
                    congr 2
                    unfold spA
                    rw [List.getElem_map, hB, hlx])
                  have HNE := Lib.hid (show B ≠ ba from hB ▸ HKP.out _ (List.getElem_mem hlt))
                  have hsl := HSL.out j
                  obtain ⟨Ao, co, rfl⟩ := hR.own.shape
                  obtain ⟨n0, hn0⟩ : ∃ n, (st0 ++ (spA ks (bb, cat (kt.map kl))).take j).length = n := ⟨_, rfl⟩
                  have HN0 := Lib.hid (show n0 ≤ 80000 by rw [← hn0]; exact hsl)
                  rw [hn0] at HR ⊢
                  obtain ⟨k0, k1⟩ := cell_of2 hR.blk
                  have hcl := lt_of_block hR.blk
                  have hkl := World.block_lt_of_cell? wr _ kj
                  have g1 : (j : Int) < (ks.length : Int) := by omega
                  have g2 : (0 : Int) ≤ (j : Int) := by omega
                  have HJ := Lib.hid hlt
                  have HN := Lib.hid hn0
                  have HW1 := Lib.hid (show wrap64 ((j : Int) + 1) = ((j + 1 : Nat) : Int) by have := HKL.out; unfold wrap64; omega)
                  clear hR hlx hB hj hsl hn0 hlt
                  go_wp2_with (at_builtin; refine wpList_append_Q rfl (.tmp 116) (.tmp 121) rfl W (st0 ++ (spA ks (bb, cat (kt.map kl))).take j) ((B, lx), (bb, cat (kt.map kl))) ?_ ?_ ?_ ?_ ?_)
                  · exact HR.out.own.below (by repeat (first | exact Below.refl _ _ | (refine Below.drew ?_) | (refine below_drewN' ?_ _) | (refine below_alloc' ?_ _) | (refine Below.setCell ?_ (by first | exact Nat.le_refl _ | (simp; done) | (simp; omega)) _)))
                  · exact ⟨_, _, rfl, by simp [go_sem], by simp [go_sem]⟩
                  · have := HR.out.bel.size; simp; omega
                  · have := HSL.out j; rw [List.length_append, List.length_take] at this; (first | omega | (simp only [List.length_append, List.length_take]; omega))
                  intro v' w9 hown' hg
                  have hown2 : OwnQ W w9 v' (st0 ++ (spA ks (bb, cat (kt.map kl))).take j ++ [((B, lx), (bb, cat (kt.map kl)))]) := by first | exact hown' | (rw [List.append_assoc]; exact hown')
                  have HP := Lib.hid (HR.out.push (x := ((B, lx), (bb, cat (kt.map kl)))) HT.out ((by repeat (first | exact Below.refl _ _ | (refine Below.drew ?_) | (refine below_drewN' ?_ _) | (refine below_alloc' ?_ _) | (refine Below.setCell ?_ (by first | exact Nat.le_refl _ | (simp; done) | (simp; omega)) _))) : Below wr.heap.size wr _) hown2 hg (Or.inl HNE.out))
                  rw [← HTK.out] at HP
                  obtain ⟨A9, c9, rfl⟩ := hown'.shape
                  clear hown' hown2 hg
                  go_wp2_with fail
                  go_roundw
                  case rel => exact ⟨j + 1, by have := HJ.out; omega, (by rw [HW1.out]), HP.out⟩
                  case measure => rw [HW1.out, intOf_nat, intOf_nat]; have := HJ.out; omega
                · have e : (spA ks (bb, cat (kt.map kl))).take j = spA ks (bb, cat (kt.map kl)) := List.take_of_length_le (by unfold spA; rw [List.length_map]; omega)
                  rw [e] at HR
                  have g1 : ¬ (j : Int) < (ks.length : Int) := by omega
                  clear hR e hj hlt
                  go_wp2_with fail
                  go_step3
                  exact ⟨rfl, wts (st0 ++ spA ks (bb, cat (kt.map kl))), by rw [wts_append]; have := HW.out.1; have := HWT.out; omega, d, st0 ++ spA ks (bb, cat (kt.map kl)), _, _, _, _, _, _, _, _, _, _, _, _, _, _, _, _, _, _, _, _, _, _, _, _, _, _, _, _, _, _, _, _, _, _, _, _, _, _, _, _, _, _, _, _, _, _, _, _, _, _, _, _, _, _, _, _, _, _, _, _, _, _, _, _, _, _, _, _, _, _, _, _, _, _, _, _, _, _, _, _, _, _, _, _, _, _, _, _, _, _, _, _, _, _, _, _, _, _, _, _, _, _, _, _, _, _, _, _, _, _, _, _, _, _, _, _, _, _, _, _, rfl, HR.out.own, HNS.out, HPF.out, HR.out.inv, HR.out.bel, Nat.le_refl _, by rw [wts_append]; have := HW.out; have := HWT.out; omega⟩
            · have g5 : ¬ (nb : Int) ≤ (na : Int) := by omega
              have hln : kt.length ≤ 40000 := by
                have h1 := cat_length (kt.map kl) hkb.ne
                rw [List.length_map] at h1
                have h2 := wtP_B (x := ((ba, cat (ks.map kl)), (bb, cat (kt.map kl)))) (List.length_pos_iff.2 HND.out.1.ne) (List.length_pos_iff.2 HND.out.2.1.ne)
                have h3 := HW.out.1
                have h4 := HW.out.2.1
                simp only at h2
                omega
              have HKD := Lib.hid (fun W' (h : Below W.heap.size W W') => pkids_any W' bb sb k kt (Below.keeps h _ _ hdb.c3) (hsb.below h) (Nat.le_trans hln (by omega)))
              have HKN := Lib.hid (show kt.map kidV ≠ [] from fun h => by have := hkb.two; rw [List.length_map] at this; rw [List.map_eq_nil_iff.1 h] at this; simp at this)
              have HKP := Lib.hid (show ∀ x ∈ kt, x.2.1 ≠ bb from fun x hx h => by
                have h1 := (hnb x hx)
                rw [h] at h1
                have h2 := h1.uniq HND.out.2.1
                have h3 := hkb.kid_lt (List.mem_map_of_mem hx)
                have h4 : (kl x).2 = x.2.2 := rfl
                rw [h4, h2] at h3
                omega)
              have HKL := Lib.hid (show kt.length ≤ 40000 from hln)
              have HSL := Lib.hid (show ∀ j, (st0 ++ (spB (ba, cat (ks.map kl)) kt).take j).length ≤ 80000 from fun j => by
                have h1 := HW.out.2.2.2
                have h2 := hln
                rw [List.length_append, List.length_take]
                have h3 : (spB (ba, cat (ks.map kl)) kt).length = kt.length := List.length_map ..
                omega)
              have HWT := Lib.hid (show wts (spB (ba, cat (ks.map kl)) kt) < wtP ((ba, cat (ks.map kl)), (bb, cat (kt.map kl))) from wts_spB hkb _ (List.length_pos_iff.2 HND.out.1.ne))
              have HNS := Lib.hid (show ∀ x ∈ st0 ++ spB (ba, cat (ks.map kl)) kt, Nd W k x.1.1 x.1.2 ∧ Nd W k x.2.1 x.2.2 from fun x hx => by
                rcases List.mem_append.1 hx with hx | hx
                · exact HND.out.2.2 x hx
                · obtain ⟨y, hy, rfl⟩ := List.mem_map.1 hx
                  exact ⟨HND.out.1, hnb y hy⟩)
              have HPF := Lib.hid (show (d ++ flatP far (st0 ++ spB (ba, cat (ks.map kl)) kt)).Perm (prsL far la lb) from by
                have h5 := HPM.out
                rw [flatP_append]
                exact (List.Perm.append_left d (List.Perm.append_left _ (flat_spB far kt (ba, _)).symm)).trans h5)
              clear hln
              clear hg' hda hdb hsa hka hna hsb hkb hnb
              go_wp2_with fail
              refine (HEA.out _ HV2.out.bel).mono ?_
              rintro e w3 ⟨rfl, hb⟩
              have hv := HV2.out.step HT.out hb
              obtain ⟨k0, k1⟩ := cell_of2 hv.blk
              have hcl := lt_of_block hv.blk
              have HV4 := Lib.hid (hv.step HT.out ((by repeat (first | exact Below.refl _ _ | (refine Below.drew ?_) | (refine below_drewN' ?_ _) | (refine below_alloc' ?_ _) | (refine Below.setCell ?_ (by first | exact Nat.le_refl _ | (simp; done) | (simp; omega)) _))) : Below w3.heap.size w3 (w3.alloc (.cells #[.slice none 0 0, .int .u64 0] 44))))
              clear hv hb
              go_wp2_with fail
              refine (HEB.out _ HV4.out.bel).mono ?_
              rintro e w5 ⟨rfl, hb⟩
              have hv := HV4.out.step HT.out hb
              obtain ⟨k0, k1⟩ := cell_of2 hv.blk
              have hcl := lt_of_block hv.blk
              have HV6 := Lib.hid (hv.step HT.out ((by repeat (first | exact Below.refl _ _ | (refine Below.drew ?_) | (refine below_drewN' ?_ _) | (refine below_alloc' ?_ _) | (refine Below.setCell ?_ (by first | exact Nat.le_refl _ | (simp; done) | (simp; omega)) _))) : Below w5.heap.size w5 (w5.alloc (.cells #[.slice none 0 0, .int .u64 0] 44))))
              clear hv hb
              go_wp2_with fail
              go_quiet ((first | with_reducible exact Calls.quiet_of_same (HLA.out _ ((HV6.out.step HT.out (below_drewN' (Below.refl _ _) _)).bel)) | with_reducible exact Calls.quiet_of_same (HLB.out _ ((HV6.out.step HT.out (below_drewN' (Below.refl _ _) _)).bel))))
              have HV7 := Lib.hid (HV6.out.step HT.out (below_drewN' (Below.refl _ _) nq))
              go_wp2_with fail
              refine (HKD.out _ HV7.out.bel).mono ?_
              rintro e w8 ⟨kv, rfl, hkv, hb⟩
              have hkn : kt.map kidV ≠ [] := HKN.out
              obtain ⟨gk, nk, rfl, _, _⟩ := hkv.cells hkn
              rw [List.length_map] at hkv ⊢
              have HL := Lib.hid (KlI.mk0 HT.out HV7.out hb hkv)
              clear hkv hb hkn
              go_wp2_with fail
              go_loopw [8, 17, 71] (fun ov _ iv wr => ∃ j : Nat, j ≤ kt.length ∧ iv = .int .i64 (j : Nat) ∧ KlI W Inv (.slice (some ⟨gk, 0, none⟩) kt.length nk) (kt.map kidV) C ba bb wr ov d (st0 ++ (spB (ba, cat (ks.map kl)) kt).take j)) (fun _ _ iv _ => kt.length - (intOf iv).toNat)
              case atStart => exact ⟨0, Nat.zero_le _, rfl, by rw [List.take_zero, List.append_nil]; exact HL.out⟩
              case round =>
                obtain ⟨j, hj, rfl, hR⟩ := hrel
                have HR := Lib.hid hR
                by_cases hlt : j < kt.length
                · have kj := OwnV.cellsAt hR.row HKN.out j (by rw [List.length_map]; exact hlt)
                  rw [List.getElem_map] at kj
                  obtain ⟨B, hB⟩ : ∃ B, kt[j].2.1 = B := ⟨_, rfl⟩
                  obtain ⟨lx, hlx⟩ : ∃ lx, kt[j].2.2 = lx := ⟨_, rfl⟩
                  replace kj : wr.cell? ⟨gk, j, none⟩ = some (.pointer (some ⟨B, 0, none⟩)) := by rw [← hB]; exact kj
                  have HTK := Lib.hid (show st0 ++ (spB (ba, cat (ks.map kl)) kt).take (j + 1) = (st0 ++ (spB (ba, cat (ks.map kl)) kt).take j) ++ [((ba, cat (ks.map kl)), (B, lx))] by
                    rw [List.append_assoc, ← List.take_append_getElem (by unfold spB; rw [List.length_map]; exact hlt)]
                    congr 2
                    unfold spB
                    rw [List.getElem_map, hB, hlx])
                  have HNE := Lib.hid (show B ≠ bb from hB ▸ HKP.out _ (List.getElem_mem hlt))
                  have hsl := HSL.out j
                  obtain ⟨Ao, co, rfl⟩ := hR.own.shape
                  obtain ⟨n0, hn0⟩ : ∃ n, (st0 ++ (spB (ba, cat (ks.map kl)) kt).take j).length = n := ⟨_, rfl⟩
                  have HN0 := Lib.hid (show n0 ≤ 80000 by rw [← hn0]; exact hsl)
                  rw [hn0] at HR ⊢
                  obtain ⟨k0, k1⟩ := cell_of2 hR.blk
                  have hcl := lt_of_block hR.blk
                  have hkl := World.block_lt_of_cell? wr _ kj
                  have g1 : (j : Int) < (kt.length : Int) := by omega
                  have g2 : (0 : Int) ≤ (j : Int) := by omega
                  have HJ := Lib.hid hlt
                  have HN := Lib.hid hn0
                  have HW1 := Lib.hid (show wrap64 ((j : Int) + 1) = ((j + 1 : Nat) : Int) by have := HKL.out; unfold wrap64; omega)
                  clear hR hlx hB hj hsl hn0 hlt
                  go_wp2_with (at_builtin; refine wpList_append_Q rfl (.tmp 75) (.tmp 80) rfl W (st0 ++ (spB (ba, cat (ks.map kl)) kt).take j) ((ba, cat (ks.map kl)), (B, lx)) ?_ ?_ ?_ ?_ ?_)
                  · exact HR.out.own.below (by repeat (first | exact Below.refl _ _ | (refine Below.drew ?_) | (refine below_drewN' ?_ _) | (refine below_alloc' ?_ _) | (refine Below.setCell ?_ (by first | exact Nat.le_refl _ | (simp; done) | (simp; omega)) _)))
                  · exact ⟨_, _, rfl, by simp [go_sem], by simp [go_sem]⟩
                  · have := HR.out.bel.size; simp; omega
                  · have := HSL.out j; rw [List.length_append, List.length_take] at this; (first | omega | (simp only [List.length_append, List.length_take]; omega))
                  intro v' w9 hown' hg
                  have hown2 : OwnQ W w9 v' (st0 ++ (spB (ba, cat (ks.map kl)) kt).take j ++ [((ba, cat (ks.map kl)), (B, lx))]) := by first | exact hown' | (rw [List.append_assoc]; exact hown')
                  have HP := Lib.hid (HR.out.push (x := ((ba, cat (ks.map kl)), (B, lx))) HT.out ((by repeat (first | exact Below.refl _ _ | (refine Below.drew ?_) | (refine below_drewN' ?_ _) | (refine below_alloc' ?_ _) | (refine Below.setCell ?_ (by first | exact Nat.le_refl _ | (simp; done) | (simp; omega)) _))) : Below wr.heap.size wr _) hown2 hg (Or.inr HNE.out))
                  rw [← HTK.out] at HP
                  obtain ⟨A9, c9, rfl⟩ := hown'.shape
                  clear hown' hown2 hg
                  go_wp2_with fail
                  go_roundw
                  case rel => exact ⟨j + 1, by have := HJ.out; omega, (by rw [HW1.out]), HP.out⟩
                  case measure => rw [HW1.out, intOf_nat, intOf_nat]; have := HJ.out; omega
                · have e : (spB (ba, cat (ks.map kl)) kt).take j = spB (ba, cat (ks.map kl)) kt := List.take_of_length_le (by unfold spB; rw [List.length_map]; omega)
                  rw [e] at HR
                  have g1 : ¬ (j : Int) < (kt.length : Int) := by omega
                  clear hR e hj hlt
                  go_wp2_with fail
                  go_step3
                  exact ⟨rfl, wts (st0 ++ spB (ba, cat (ks.map kl)) kt), by rw [wts_append]; have := HW.out.1; have := HWT.out; omega, d, st0 ++ spB (ba, cat (ks.map kl)) kt, _, _, _, _, _, _, _, _, _, _, _, _, _, _, _, _, _, _, _, _, _, _, _, _, _, _, _, _, _, _, _, _, _, _, _, _, _, _, _, _, _, _, _, _, _, _, _, _, _, _, _, _, _, _, _, _, _, _, _, _, _, _, _, _, _, _, _, _, _, _, _, _, _, _, _, _, _, _, _, _, _, _, _, _, _, _, _, _, _, _, _, _, _, _, _, _, _, _, _, _, _, _, _, _, _, _, _, _, _, _, _, _, _, _, _, _, _, _, _, _, rfl, HR.out.own, HNS.out, HPF.out, HR.out.inv, HR.out.bel, Nat.le_refl _, by rw [wts_append]; have := HW.out; have := HWT.out; omega⟩
  · intro Q' hR
    have hR := Lib.hid hR
    cases ra with
    | none =>
      obtain rfl : qa = none := by have := HQ.out.1; injection this with this; exact this.symm
      have HE := Lib.hid (show la = [] from HR0.out.1)
      go_wp2_with fail
      refine (HA0.out).mono ?_
      rintro e w' ⟨rfl, hw⟩
      obtain rfl := hw.symm
      clear hw
      go_wp2_with fail
      go_step3
      simp only [Exit.then]
      rename_i hK
      refine hK _ _ ?_
      refine hR.out 0 _ _ ?_
      exact ⟨[], [], _, _, _, _, _, _, _, _, _, _, _, _, _, _, _, _, _, _, _, _, _, _, _, _, _, _, _, _, _, _, _, _, _, _, _, _, _, _, _, _, _, _, _, _, _, _, _, _, _, _, _, _, _, _, _, _, _, _, _, _, _, _, _, _, _, _, _, _, _, _, _, _, _, _, _, _, _, _, _, _, _, _, _, _, _, _, _, _, _, _, _, _, _, _, _, _, _, _, _, _, _, _, _, _, _, _, _, _, _, _, _, _, _, _, _, _, _, _, _, _, rfl, OwnQ.nil _ _, (fun x hx => by simp at hx), by rw [HE.out]; exact List.Perm.refl _, HI.out.1, HI.out.2.1, Nat.le_refl _, Nat.zero_le _⟩
    | some ba =>
      obtain rfl : qa = some ⟨ba, 0, none⟩ := by have := HQ.out.1; injection this with this; exact this.symm
      cases rb with
      | none =>
        obtain rfl : qb = none := by have := HQ.out.2; injection this with this; exact this.symm
        have HE := Lib.hid (show lb = [] from HR0.out.2)
        go_wp2_with fail
        refine (HA0.out).mono ?_
        rintro e w' ⟨rfl, hw⟩
        obtain rfl := hw.symm
        clear hw
        go_wp2_with fail
        refine (HB0.out).mono ?_
        rintro e w' ⟨rfl, hw⟩
        obtain rfl := hw.symm
        clear hw
        go_wp2_with fail
        go_step3
        simp only [Exit.then]
        rename_i hK
        refine hK _ _ ?_
        refine hR.out 0 _ _ ?_
        exact ⟨[], [], _, _, _, _, _, _, _, _, _, _, _, _, _, _, _, _, _, _, _, _, _, _, _, _, _, _, _, _, _, _, _, _, _, _, _, _, _, _, _, _, _, _, _, _, _, _, _, _, _, _, _, _, _, _, _, _, _, _, _, _, _, _, _, _, _, _, _, _, _, _, _, _, _, _, _, _, _, _, _, _, _, _, _, _, _, _, _, _, _, _, _, _, _, _, _, _, _, _, _, _, _, _, _, _, _, _, _, _, _, _, _, _, _, _, _, _, _, _, _, _, rfl, OwnQ.nil _ _, (fun x hx => by simp at hx), by rw [HE.out, prs_nil_right]; exact List.Perm.refl _, HI.out.1, HI.out.2.1, Nat.le_refl _, Nat.zero_le _⟩
      | some bb =>
        obtain rfl : qb = some ⟨bb, 0, none⟩ := by have := HQ.out.2; injection this with this; exact this.symm
        have hlen : wtP ((ba, la), (bb, lb)) ≤ 40000 := by
          unfold wtP
          have := Nat.mul_le_mul (show 2 * la.length - 1 ≤ 199 by have := HI.out.2.2.1; omega) (show 2 * lb.length - 1 ≤ 199 by have := HI.out.2.2.2; omega)
          simp only
          omega
        have HL := Lib.hid hlen
        clear hlen
        go_wp2_with fail
        refine (HA0.out).mono ?_
        rintro e w' ⟨rfl, hw⟩
        obtain rfl := hw.symm
        clear hw
        go_wp2_with fail
        refine (HB0.out).mono ?_
        rintro e w' ⟨rfl, hw⟩
        obtain rfl := hw.symm
        clear hw
        go_wp2_with fail
        refine (HA0.out).mono ?_
        rintro e w' ⟨rfl, hw⟩
        obtain rfl := hw.symm
        clear hw
        go_wp2_with fail
        refine (HB0.out).mono ?_
        rintro e w' ⟨rfl, hw⟩
        obtain rfl := hw.symm
        clear hw
        go_wp2_with (at_builtin; refine wpList_append_Q rfl (.tmp 26) (.tmp 32) rfl W [] ((ba, la), (bb, lb)) ?_ ?_ ?_ ?_ ?_)
        · exact OwnQ.nil _ _
        · exact ⟨_, _, rfl, by simp [go_sem], by simp [go_sem]⟩
        · have := HI.out.2.1.size; simp; omega
        · simp
        intro v' w9 hown' hg
        have hbx : Below w.heap.size w (w.alloc (.cells #[.pointer (some ⟨ba, 0, none⟩), .pointer (some ⟨bb, 0, none⟩)] 69)) := (by repeat (first | exact Below.refl _ _ | (refine Below.drew ?_) | (refine below_drewN' ?_ _) | (refine below_alloc' ?_ _) | (refine Below.setCell ?_ (by first | exact Nat.le_refl _ | (simp; done) | (simp; omega)) _)))
        have HP := Lib.hid (show EaI W k far Inv (prsL far la lb) (wtP ((ba, la), (bb, lb))) w9 v' [] [((ba, la), (bb, lb))] from ⟨hown', (fun x hx => by
          obtain rfl : x = ((ba, la), (bb, lb)) := by simpa using hx
          exact HR0.out), by unfold flatP; simp, HT.out.step _ _ _ HI.out.1 ((Kq.of hbx).trans (Kq.grown (OwnQ.nil W _) hg)), (OwnQ.nil W _).grown (HI.out.2.1.trans (hbx.mono HI.out.2.1.size)) hg, by rw [wts_one]; exact Nat.le_refl _, HL.out⟩)
        clear hown' hg hbx
        go_wp2_with fail
        go_step3
        simp only [Exit.then]
        rename_i hK
        refine hK _ _ ?_
        refine hR.out (wtP ((ba, la), (bb, lb))) _ _ ?_
        exact ⟨[], [((ba, la), (bb, lb))], _, _, _, _, _, _, _, _, _, _, _, _, _, _, _, _, _, _, _, _, _, _, _, _, _, _, _, _, _, _, _, _, _, _, _, _, _, _, _, _, _, _, _, _, _, _, _, _, _, _, _, _, _, _, _, _, _, _, _, _, _, _, _, _, _, _, _, _, _, _, _, _, _, _, _, _, _, _, _, _, _, _, _, _, _, _, _, _, _, _, _, _, _, _, _, _, _, _, _, _, _, _, _, _, _, _, _, _, _, _, _, _, _, _, _, _, _, _, _, _, rfl, HP.out⟩
end Go.Proofs.Ytdkomhmciihkiaa
/-! Pairs -/
namespace Go.Proofs.Ytdkomhmciihkiaa
open Go.RowKit
set_option linter.unusedVariables false
set_option linter.unusedSimpArgs false

theorem enters_func {P : Program} {f : FuncId} {fn : Func} (hf : P.funcs[f]? = some fn) (hname : (fn.name == "runtime.NumGoroutine") = false) (hb : fn.body.isSome = true) (args : Array Value) (w : World) :
    (callFunc f args).run P w = .ok (.enter f args) w := by
  have h1 : fn.name ≠ "runtime.NumGoroutine" := by simpa using hname
  obtain ⟨c, hc⟩ := Option.isSome_iff_exists.1 hb
  simp [callFunc, hf, h1, hc]
/-- at the label: so much is done -/
structure PairsAt (W : World) (T : Option Ch × Option Ch → Bool) (Inv : List (Option Ch × Option Ch) → World → Prop) (a b : List Ch) (wa wb : Value) (n : Nat) (la lb : List Ch) (d : List (Option Ch × Option Ch)) (w' : World) : Prop where
  ra : RdC W wa la ∧ CapOk wa
  rb : RdC W wb lb ∧ CapOk wb
  le : la.length + lb.length ≤ n
  eq' : pairs a b = d ++ pairsL n la lb
  all : d.all T = true
  inv : Inv d w'
  bel : Below W.heap.size W w'
  sa : ∀ x ∈ la, x ∈ a
  sb : ∀ y ∈ lb, y ∈ b
  len : d.length + (la.length + lb.length) ≤ a.length + b.length

section
variable {W w' : World} {T : Option Ch × Option Ch → Bool} {Inv : List (Option Ch × Option Ch) → World → Prop} {a b ta tb : List Ch} {x y : Ch} {wa wb : Value} {n : Nat} {d : List (Option Ch × Option Ch)}
theorem PairsAt.done (h : PairsAt W T Inv a b wa wb n [] [] d w') : pairs a b = d := by
  have := h.eq'
  cases n <;> simpa [pairsL] using this
end
end Go.Proofs.Ytdkomhmciihkiaa
/-! PrsE -/
namespace Go.Proofs.Ytdkomhmciihkiaa
open Go.RowKit
set_option linter.unusedVariables false
set_option linter.unusedSimpArgs false
set_option maxRecDepth 100000

theorem set_one {w : World} {B : Nat} {v v' : Value} {t : TypeId} {fr : Nat × Nat} (h : w.heap[B]? = some (.cells #[v] t fr)) : (w.setCell ⟨B, 0, none⟩ v').heap[B]? = some (.cells #[v'] t fr) := by
  simp [World.setCell, Array.getElem?_modify, h]
theorem prs_len (far : Nat) (la lb : List En) : (prsL far la lb).length ≤ la.length * lb.length := by
  induction la with
  | nil => simp [prsL]
  | cons e la ih =>
    have h1 : prsL far (e :: la) lb = ((lb.filter fun f => decide (distE e.p f.p ≤ far)).map fun f => (e, f)) ++ prsL far la lb := by unfold prsL; rw [List.flatMap_cons]
    rw [h1, List.length_append, List.length_map, List.length_cons, Nat.add_mul, Nat.one_mul]
    have := List.length_filter_le (fun f => decide (distE e.p f.p ≤ far)) lb
    omega
def chkC (ka kb : Nat) : Int := if ka = kb then 0 else 2
set_option maxHeartbeats 1000000 in
theorem chk_any (w : World) (ta tb ka kb : Nat) (la lb : List En) (hA : TrR w ta ka la) (hB : TrR w tb kb lb) :
    Calls Try.prog 11 #[.pointer (some ⟨ta, 0, none⟩), .pointer (some ⟨tb, 0, none⟩)] w fun e w' => e = .returned (.int .i64 (chkC ka kb)) ∧ Below w.heap.size w w' := by
  have HA := Lib.hid (tk_any w ta ka hA.c0)
  have HB := Lib.hid (tk_any w tb kb hB.c0)
  have h1 := World.block_lt_of_cell? w _ hA.c0
  have h2 := World.block_lt_of_cell? w _ hB.c0
  clear hA hB
  by_cases hk : ka = kb
  · subst hk
    have HC := Lib.hid (show chkC ka ka = 0 from if_pos rfl)
    go_enter Try.func11, Try.ntmps11
    go_wp2_with fail
    refine HA.out.mono ?_
    rintro e w' ⟨rfl, hw⟩
    obtain rfl := hw.symm
    clear hw
    go_wp2_with fail
    refine HB.out.mono ?_
    rintro e w' ⟨rfl, hw⟩
    obtain rfl := hw.symm
    clear hw
    go_wp2_with fail
    go_ret
    exact ⟨by rw [HC.out]; rfl, (by repeat (first | exact Below.refl _ _ | (refine Below.drew ?_) | (refine below_drewN' ?_ _) | (refine below_alloc' ?_ _) | (refine Below.setCell ?_ (by first | exact Nat.le_refl _ | (simp; done) | (simp; omega)) _)))⟩
  · have HC := Lib.hid (show chkC ka kb = 2 from if_neg hk)
    have g1 : ¬ (ka : Int) = (kb : Int) := by omega
    go_enter Try.func11, Try.ntmps11
    go_wp2_with fail
    refine HA.out.mono ?_
    rintro e w' ⟨rfl, hw⟩
    obtain rfl := hw.symm
    clear hw
    go_wp2_with fail
    refine HB.out.mono ?_
    rintro e w' ⟨rfl, hw⟩
    obtain rfl := hw.symm
    clear hw
    go_wp2_with fail
    go_ret
    exact ⟨by rw [HC.out]; rfl, (by repeat (first | exact Below.refl _ _ | (refine Below.drew ?_) | (refine below_drewN' ?_ _) | (refine below_alloc' ?_ _) | (refine Below.setCell ?_ (by first | exact Nat.le_refl _ | (simp; done) | (simp; omega)) _)))⟩
/-- the counter at B counts what has been told -/
def CntI (W : World) (B : Nat) (d : List (En × En)) (w : World) : Prop := W.heap.size ≤ B ∧ w.heap[B]? = some (.cells #[.int .i64 (d.length : Nat)] 3 (0, 0))
set_option maxHeartbeats 1000000 in
theorem cnt_tell (W : World) (B N : Nat) (hN : N ≤ 100000) : PTell W 13 #[.pointer (some ⟨B, 0, none⟩)] N (CntI W B) := by
  refine ⟨enters_func (Try.func13) (by kernel_rfl) (by kernel_rfl), ?_, ?_⟩
  · intro d x u v w hd hi hb hu hv
    obtain ⟨hB, hblk⟩ := hi
    have kb := cell_of_one hblk
    have fb := free_of_one hblk
    have hlB := lt_of_block hblk
    obtain ⟨Au, cu, rfl, _⟩ := RdU.point hu.rd
    obtain ⟨Av, cv, rfl, _⟩ := RdU.point hv.rd
    have HW := Lib.hid (show wrap64 ((d.length : Int) + 1) = ((d.length + 1 : Nat) : Int) by unfold wrap64; omega)
    have HX := Lib.hid (And.intro hB (And.intro hblk hb))
    clear hB hblk hb hu hv hd hN
    unfold pairV
    go_enter Try.func13, Try.ntmps13
    go_wp2_with fail
    rw [HW.out]
    go_end0
    have hs := set_one (v' := .int .i64 ((d.length + 1 : Nat) : Int)) HX.out.2.1
    have hb2 : Below (w.setCell ⟨B, 0, none⟩ (.int .i64 ((d.length + 1 : Nat) : Int))).heap.size (w.setCell ⟨B, 0, none⟩ (.int .i64 ((d.length + 1 : Nat) : Int))) ((w.setCell ⟨B, 0, none⟩ (.int .i64 ((d.length + 1 : Nat) : Int))).alloc (.cells #[.slice Au x.1.p.length cu, .int .u64 (x.1.v : Nat), .slice Av x.2.p.length cv, .int .u64 (x.2.v : Nat)] 46)) := (by repeat (first | exact Below.refl _ _ | (refine Below.drew ?_) | (refine below_drewN' ?_ _) | (refine below_alloc' ?_ _) | (refine Below.setCell ?_ (by first | exact Nat.le_refl _ | (simp; done) | (simp; omega)) _)))
    refine ⟨rfl, ⟨HX.out.1, ?_⟩, ?_, ?_⟩
    · rw [List.length_append, List.length_singleton]
      exact (hb2.block B (lt_of_block hs)).trans hs
    · exact (HX.out.2.2.setCell HX.out.1 _).trans (hb2.mono (HX.out.2.2.setCell HX.out.1 _).size)
    · intro b cur h
      have hne : b ≠ B := fun e => by
        subst e
        rw [HX.out.2.1] at h
        injection h with h
        injection h with _ h _
        revert h; decide
      have h9 : (w.setCell ⟨B, 0, none⟩ (.int .i64 ((d.length + 1 : Nat) : Int))).heap[b]? = w.heap[b]? := Below.heap_setCell _ _ _ _ hne
      exact (hb2.block b (lt_of_block (h9.trans h))).trans h9
  · intro d w w' hi hk
    exact ⟨hi.1, hk.keep _ _ _ _ hi.2 (by decide)⟩
set_option maxHeartbeats 1000000 in
theorem count_any (w : World) (ta tb k far : Nat) (la lb : List En) (hA : TrR w ta k la) (hB : TrR w tb k lb) (h1 : la.length ≤ 100) (h2 : lb.length ≤ 100) (hfar : far < 2 ^ 64) :
    Calls Try.prog 7 #[.pointer (some ⟨ta, 0, none⟩), .pointer (some ⟨tb, 0, none⟩), .int .u64 (far : Nat)] w fun e w' => e = .returned (.tuple #[.int .i64 ((prsL far la lb).length : Nat), .int .i64 0]) ∧ Below w.heap.size w w' := by
  have HCK := Lib.hid (chk_any w ta tb k k la lb hA hB)
  have hc0 : chkC k k = 0 := if_pos rfl
  rw [hc0] at HCK
  have hlen : (prsL far la lb).length ≤ 10000 := by
    have h3 := prs_len far la lb
    have h4 := Nat.mul_le_mul h1 h2
    omega
  have HE := Lib.hid (fun (w' : World) (B : Nat) (hb : Below w.heap.size w w') (hB' : w.heap.size ≤ B) (hblk : w'.heap[B]? = some (.cells #[.int .i64 0] 3 (0, 0))) =>
    each_pairs w w' 13 #[.pointer (some ⟨B, 0, none⟩)] 10000 k ta tb far la lb (CntI w B) (cnt_tell w B 10000 (by omega)) hA hB ⟨hB', hblk⟩ hb h1 h2 hlen hfar)
  clear hA hB h1 h2 hfar hc0 hlen
  go_enter Try.func7, Try.ntmps7
  go_wp2_with fail
  refine HCK.out.mono ?_
  rintro e w1 ⟨rfl, hb1⟩
  have HB1 := Lib.hid hb1
  clear hb1
  go_wp2_with fail
  refine (HE.out _ w1.heap.size (below_alloc' HB1.out _) HB1.out.size (alloc_blk _ _)).mono ?_
  rintro e w2 ⟨rfl, d, hp, ⟨hB, hblk⟩, hb2⟩
  have kb := cell_of_one hblk
  have hl := lt_of_block hblk
  have HL := Lib.hid (And.intro hp.length_eq hb2)
  clear hp hB hblk hb2
  go_wp2_with fail
  go_ret2
  exact ⟨by rw [← HL.out.1]; rfl, HL.out.2⟩
end Go.Proofs.Ytdkomhmciihkiaa
/-! AwkP -/
namespace Go.Proofs.Ytdkomhmciihkiaa
open Go.RowKit
set_option linter.unusedVariables false
set_option linter.unusedSimpArgs false
set_option maxRecDepth 100000

theorem awp_1 : (prsL 1 (insE [5, 5] 2 (insE [1, 1] 1 [])) (insE [9, 9] 4 (insE [2, 2] 3 []))).length = 1 := by first | rfl | kernel_rfl
theorem awp_4 : (prsL 4 (insE [5, 5] 2 (insE [1, 1] 1 [])) (insE [9, 9] 4 (insE [2, 2] 3 []))).length = 3 := by first | rfl | kernel_rfl
theorem awp_a : (insE [5, 5] 2 (insE [1, 1] 1 [])).length = 2 := by first | rfl | kernel_rfl
theorem awp_b : (insE [9, 9] 4 (insE [2, 2] 3 [])).length = 2 := by first | rfl | kernel_rfl
set_option maxHeartbeats 2000000 in
theorem awakeP_any (w : World) : Calls Try.prog 4 #[] w fun e w' => e = .returned (.bool true) ∧ Below w.heap.size w w' := by
  have HN2 := Lib.hid (fun W => tnew_any W 2 (by omega) (by omega))
  have HP1 := Lib.hid (fun W t vp (h : TrR W t 2 []) (hp : RdU W vp (pti [1, 1])) => tput_any W t 2 1 [1, 1] [] vp h hp rfl (by decide) (by decide))
  have HP2 := Lib.hid (fun W t vp (h : TrR W t 2 (insE [1, 1] 1 [])) (hp : RdU W vp (pti [5, 5])) => tput_any W t 2 2 [5, 5] (insE [1, 1] 1 []) vp h hp rfl (by decide) (by decide))
  have HP3 := Lib.hid (fun W t vp (h : TrR W t 2 []) (hp : RdU W vp (pti [2, 2])) => tput_any W t 2 3 [2, 2] [] vp h hp rfl (by decide) (by decide))
  have HP4 := Lib.hid (fun W t vp (h : TrR W t 2 (insE [2, 2] 3 [])) (hp : RdU W vp (pti [9, 9])) => tput_any W t 2 4 [9, 9] (insE [2, 2] 3 []) vp h hp rfl (by decide) (by decide))
  have HC1 := Lib.hid (fun W a b (h : TrR W a 2 (insE [5, 5] 2 (insE [1, 1] 1 []))) (g : TrR W b 2 (insE [9, 9] 4 (insE [2, 2] 3 []))) => count_any W a b 2 1 _ _ h g (by rw [awp_a]; decide) (by rw [awp_b]; decide) (by decide))
  have HC4 := Lib.hid (fun W a b (h : TrR W a 2 (insE [5, 5] 2 (insE [1, 1] 1 []))) (g : TrR W b 2 (insE [9, 9] 4 (insE [2, 2] 3 []))) => count_any W a b 2 4 _ _ h g (by rw [awp_a]; decide) (by rw [awp_b]; decide) (by decide))
  rw [awp_1] at HC1
  rw [awp_4] at HC4
  rw [show ((1 : Nat) : Int) = 1 from rfl] at HC1 HP1
  rw [show ((2 : Nat) : Int) = 2 from rfl] at HN2 HP2
  rw [show ((3 : Nat) : Int) = 3 from rfl] at HP3 HC4
  rw [show ((4 : Nat) : Int) = 4 from rfl] at HP4 HC4
  have HX0 := Lib.hid (Below.refl w.heap.size w)
  go_enter Try.func4, Try.ntmps4
  go_wp2_with fail
  refine (HN2.out _).mono ?_
  rintro e w1 ⟨t, rfl, ha, hb⟩
  have HT := Lib.hid ha
  have HX1 := Lib.hid hb
  clear ha hb
  go_wp2_with fail
  refine (HP1.out _ t _ (HT.out.bel (by repeat (first | exact Below.refl _ _ | (refine Below.drew ?_) | (refine below_drewN' ?_ _) | (refine below_alloc' ?_ _) | (refine Below.setCell ?_ (by first | exact Nat.le_refl _ | (simp; done) | (simp; omega)) _)))) (RdU.two (by go_simp) (by go_simp))).mono ?_
  rintro e w2 ⟨a, rfl, hg, hb, _, _⟩
  have hb2 : Below w1.heap.size w1 w2 := below_trans (by repeat (first | exact Below.refl _ _ | (refine Below.drew ?_) | (refine below_drewN' ?_ _) | (refine below_alloc' ?_ _) | (refine Below.setCell ?_ (by first | exact Nat.le_refl _ | (simp; done) | (simp; omega)) _))) hb
  have HX2 := Lib.hid (HX1.out.trans (hb2.mono HX1.out.size))
  have HT' := Lib.hid (HT.out.bel hb2)
  clear HT
  have HT := Lib.hid HT'.out
  clear HT'
  have HA := Lib.hid hg
  clear hg hb hb2
  go_wp2_with fail
  refine (HP2.out _ a _ (HA.out.bel (by repeat (first | exact Below.refl _ _ | (refine Below.drew ?_) | (refine below_drewN' ?_ _) | (refine below_alloc' ?_ _) | (refine Below.setCell ?_ (by first | exact Nat.le_refl _ | (simp; done) | (simp; omega)) _)))) (RdU.two (by go_simp) (by go_simp))).mono ?_
  rintro e w3 ⟨c, rfl, hg, hb, _, _⟩
  have hb2 : Below w2.heap.size w2 w3 := below_trans (by repeat (first | exact Below.refl _ _ | (refine Below.drew ?_) | (refine below_drewN' ?_ _) | (refine below_alloc' ?_ _) | (refine Below.setCell ?_ (by first | exact Nat.le_refl _ | (simp; done) | (simp; omega)) _))) hb
  have HX3 := Lib.hid (HX2.out.trans (hb2.mono HX2.out.size))
  have HA' := Lib.hid (HA.out.bel hb2)
  clear HA
  have HA := Lib.hid HA'.out
  clear HA'
  have HT' := Lib.hid (HT.out.bel hb2)
  clear HT
  have HT := Lib.hid HT'.out
  clear HT'
  have HC := Lib.hid hg
  clear hg hb hb2
  go_wp2_with fail
  refine (HP3.out _ t _ (HT.out.bel (by repeat (first | exact Below.refl _ _ | (refine Below.drew ?_) | (refine below_drewN' ?_ _) | (refine below_alloc' ?_ _) | (refine Below.setCell ?_ (by first | exact Nat.le_refl _ | (simp; done) | (simp; omega)) _)))) (RdU.two (by go_simp) (by go_simp))).mono ?_
  rintro e w4 ⟨b, rfl, hg, hb, _, _⟩
  have hb2 : Below w3.heap.size w3 w4 := below_trans (by repeat (first | exact Below.refl _ _ | (refine Below.drew ?_) | (refine below_drewN' ?_ _) | (refine below_alloc' ?_ _) | (refine Below.setCell ?_ (by first | exact Nat.le_refl _ | (simp; done) | (simp; omega)) _))) hb
  have HX4 := Lib.hid (HX3.out.trans (hb2.mono HX3.out.size))
  have HT' := Lib.hid (HT.out.bel hb2)
  clear HT
  have HT := Lib.hid HT'.out
  clear HT'
  have HC' := Lib.hid (HC.out.bel hb2)
  clear HC
  have HC := Lib.hid HC'.out
  clear HC'
  have HB := Lib.hid hg
  clear hg hb hb2
  go_wp2_with fail
  refine (HP4.out _ b _ (HB.out.bel (by repeat (first | exact Below.refl _ _ | (refine Below.drew ?_) | (refine below_drewN' ?_ _) | (refine below_alloc' ?_ _) | (refine Below.setCell ?_ (by first | exact Nat.le_refl _ | (simp; done) | (simp; omega)) _)))) (RdU.two (by go_simp) (by go_simp))).mono ?_
  rintro e w5 ⟨d, rfl, hg, hb, _, _⟩
  have hb2 : Below w4.heap.size w4 w5 := below_trans (by repeat (first | exact Below.refl _ _ | (refine Below.drew ?_) | (refine below_drewN' ?_ _) | (refine below_alloc' ?_ _) | (refine Below.setCell ?_ (by first | exact Nat.le_refl _ | (simp; done) | (simp; omega)) _))) hb
  have HX5 := Lib.hid (HX4.out.trans (hb2.mono HX4.out.size))
  have HB' := Lib.hid (HB.out.bel hb2)
  clear HB
  have HB := Lib.hid HB'.out
  clear HB'
  have HC' := Lib.hid (HC.out.bel hb2)
  clear HC
  have HC := Lib.hid HC'.out
  clear HC'
  have HD := Lib.hid hg
  clear hg hb hb2
  go_wp2_with fail
  have HY5 := Lib.hid (Below.refl w5.heap.size w5)
  refine (HC1.out w5 c d HC.out HD.out).mono ?_
  rintro e w6 ⟨rfl, hb⟩
  have HX6 := Lib.hid (And.intro (HX5.out.trans (hb.mono HX5.out.size)) hb)
  clear hb
  go_wp2_with fail
  refine (HC4.out w6 c d (HC.out.bel HX6.out.2) (HD.out.bel HX6.out.2)).mono ?_
  rintro e w7 ⟨rfl, hb⟩
  have HX7 := Lib.hid (HX6.out.1.trans (hb.mono HX6.out.1.size))
  clear hb
  go_wp2_with fail
  go_ret
  exact ⟨rfl, HX7.out⟩
end Go.Proofs.Ytdkomhmciihkiaa
/-! OpenC -/
namespace Go.Proofs.Ytdkomhmciihkiaa
open Go.RowKit Go.ChangeShapes Go.WideShapes Go.Deep
set_option linter.unusedVariables false

section
variable {H : Type} {enc : TypeId × Value → H} {P : Program} {w : World} {base : Nat} {spare : Nat → Bool} {held : Bool}
theorem open_slice_fields {t e : TypeId} {fs : Array Field} {fuel : Nat} {cs : List Value} {x : DataW H × List MemPlace} (ht : P.underlying t = some (.slice e)) (he : P.underlying e = some (.struct fs))
    (hone : oneCellFields P fs = true) (hC : P.cellsOf e = fs.size) (h : DataW.trod enc P w base spare held fuel t cs = some x) :
    (cs = [.slice none 0 0]) ∨
    ∃ (a : Addr) (len cap m : Nat), cs = [.slice (some a) len cap] ∧ len ≤ cap ∧ cap ≤ maxLen ∧ m = (if spare a.block then cap else len) ∧
      ∀ i, i < m → ∀ (j : Nat) (f : Field), fs[j]? = some f → ∃ (v : Value) (y : DataW H × List MemPlace) (n : Nat), w.cell? (a.add (i * fs.size + j)) = some v ∧ DataW.trod enc P w base spare held n f.type [v] = some y := by
  rcases open_slice ht h with h0 | ⟨a, len, cap, m, n, D, Pl, hcs, hb, hl, hm, hmm, hx, hi⟩
  · exact .inl h0.1
  · refine .inr ⟨a, len, cap, m, hcs, hl, hm, hmm, fun i him => ?_⟩
    obtain ⟨cs', hc, ht'⟩ := hi i him
    rw [hC] at hc
    obtain ⟨ys, n', hn', hy, hlen, hyl, hf⟩ := DataW.trod_struct he ht'
    obtain ⟨_, hcl, hat⟩ := World.cells?_some hc
    intro j f hj
    obtain ⟨ho, hk⟩ := hone_of hone j f hj
    have hjl : j < fs.size := (Array.getElem?_eq_some_iff.1 hj).1
    have hcell := hat j hjl
    have hv : cs'[j]? = some (cs'[j]'(by omega)) := List.getElem?_eq_getElem (by omega)
    have h1 := hf j f hj
    rw [ho, hk] at h1
    have hone' : (cs'.drop j).take 1 = [cs'[j]'(by omega)] := by
      rw [List.drop_eq_getElem_cons (by omega)]
      rfl
    rw [hone'] at h1
    have hys : ys[j]? = some (ys[j]'(by omega)) := List.getElem?_eq_getElem (by omega)
    refine ⟨_, _, n', ?_, h1.trans hys⟩
    rw [← Go.Deep.add_add, hcell, hv]
end
theorem spot_none {w : World} {a : Addr} {v : Value} (h : w.cell? a = some v) : ∃ b o, a = ⟨b, o, none⟩ := by
  obtain ⟨b, o, sp⟩ := a
  cases sp with
  | none => exact ⟨b, o, rfl⟩
  | some q => simp [World.cell?] at h; split at h <;> cases h
theorem add_plain (b o j : Nat) : (⟨b, o, none⟩ : Addr).add j = ⟨b, o + j, none⟩ := by
  unfold Addr.add; split
  · rename_i h; subst h; rfl
  · rfl
theorem pti_toNat {xs : List Int} (h : ∀ x ∈ xs, 0 ≤ x ∧ x ≤ 18446744073709551615) : pti (xs.map Int.toNat) = xs := by
  unfold pti
  rw [List.map_map]
  conv => rhs; rw [← List.map_id xs]
  apply List.map_congr_left
  intro x hx
  have := h x hx
  simp only [Function.comp_apply, id]
  omega
instance : Inhabited Ch := ⟨⟨[], false, false, 0, 0⟩⟩
















































































end Go.Proofs.Ytdkomhmciihkiaa
/-! OpenA -/
namespace Go.Proofs.Ytdkomhmciihkiaa
open Go.RowKit Go.ChangeShapes Go.WideShapes Go.Deep
set_option linter.unusedVariables false

/-- an act's numbers, whatever its point's length -/
def Ac.OkV (a : Ac) : Prop := (∀ c ∈ a.p, c < 2 ^ 64) ∧ a.v < 2 ^ 64
theorem open_acts {H : Type} {enc : TypeId × Value → H} {W : World} {base : Nat} {held : Bool} {v : Value} {x : DataW H × List MemPlace} {fuel : Nat}
    (h : DataW.trod enc Try.prog W base (fun _ => true) held fuel 22 [v] = some x) :
    ∃ l, RdA W v l ∧ (∀ c ∈ l, Ac.OkV c) ∧ l.length ≤ maxLen ∧ ∃ A n c, v = .slice A n c ∧ n ≤ c ∧ c ≤ maxLen ∧ (0 < c → ∃ b o, A = some ⟨b, o, none⟩) := by
  have hu : ∃ fs, Try.prog.underlying 39 = some (.struct fs) ∧ fs.size = 3 ∧ (fs[0]?.map (·.type) = some 4) ∧ (fs[1]?.map (·.type) = some 37) ∧ (fs[2]?.map (·.type) = some 23) ∧ oneCellFields Try.prog fs = true ∧ Try.prog.cellsOf 39 = fs.size :=
    ⟨_, Try.underlying39, by kernel_rfl, by kernel_rfl, by kernel_rfl, by kernel_rfl, by kernel_rfl, by kernel_rfl⟩
  obtain ⟨fs, he, hs, t0, t1, t2, hone, hC⟩ := hu
  rcases open_slice_fields Try.underlying22 he hone hC h with h0 | ⟨a, len, cap, m, hcs, hl, hm, hmm, hf⟩
  · simp only [List.cons.injEq, and_true] at h0
    subst h0
    exact ⟨[], ⟨none, 0, rfl, fun h => absurd h (by simp)⟩, fun c hc => by simp at hc, by simp [maxLen], none, 0, 0, rfl, Nat.le_refl _, Nat.zero_le _, fun h => absurd h (by omega)⟩
  · simp only [List.cons.injEq, and_true] at hcs
    subst hcs
    have hlm : len ≤ m := by rw [hmm]; split <;> omega
    rw [hs] at hf
    have hmc : m = cap := by rw [hmm]; rfl
    have hab : 0 < cap → ∃ b o, a = ⟨b, o, none⟩ := by
      intro h0
      obtain ⟨f0, q0, r0⟩ := Option.map_eq_some_iff.1 t0
      obtain ⟨v0, y0, n0, c0, d0⟩ := hf 0 (by omega) 0 f0 q0
      exact spot_none (by simpa [Addr.add] using c0)
    have each : ∀ i, i < len → ∃ c, (Ac.OkV c) ∧ ∃ b o, a = ⟨b, o, none⟩ ∧ AcAt W b (o + i * 3) c := by
      intro i hi
      have hfi := hf i (by omega)
      obtain ⟨f0, q0, r0⟩ := Option.map_eq_some_iff.1 t0
      obtain ⟨f1, q1, r1⟩ := Option.map_eq_some_iff.1 t1
      obtain ⟨f2, q2, r2⟩ := Option.map_eq_some_iff.1 t2
      obtain ⟨v0, y0, n0, c0, d0⟩ := hfi 0 f0 q0
      obtain ⟨v1, y1, n1, c1, d1⟩ := hfi 1 f1 q1
      obtain ⟨v2, y2, n2, c2, d2⟩ := hfi 2 f2 q2
      rw [r0] at d0; rw [r1] at d1; rw [r2] at d2
      obtain ⟨b, o, ha⟩ := hab (by omega)
      subst ha
      rw [add_plain] at c0 c1 c2
      obtain ⟨b0, e0, _⟩ := DataW.trod_bool Try.underlying4 d0
      obtain ⟨i2, e2, _, w2⟩ := DataW.trod_int Try.underlying23 d2
      simp only [List.cons.injEq, and_true] at e0 e2
      subst e0 e2
      have hp1 : ∃ xs : List Int, (∀ x ∈ xs, 0 ≤ x ∧ x ≤ 18446744073709551615) ∧ RdU W v1 xs := by
        rcases open_ints Try.underlying37 Try.underlying23 (by kernel_rfl) d1 with ⟨hcs, _⟩ | ⟨x, l, c, zs, hcs, _, hl, hm, hz, _, hcell, hwz⟩
        · simp only [List.cons.injEq, and_true] at hcs
          subst hcs
          exact ⟨[], fun x hx => by simp at hx, RdU.nil _ _ _⟩
        · simp only [List.cons.injEq, and_true] at hcs
          subst hcs
          obtain ⟨xs, _, _, h3, h4⟩ := RdU.of_row (w := W) (a := some x) (len := l) (cap := c) (zs := zs) (.inr ⟨_, rfl, hl, hm, by simpa using hz, hcell, hwz⟩)
          exact ⟨xs, h3, h4⟩
      obtain ⟨xs1, hx1, hv1⟩ := hp1
      have ho1 : ∀ y ∈ xs1.map Int.toNat, y < 2 ^ 64 := fun y hy => by
        simp only [List.mem_map] at hy
        obtain ⟨z, hz, rfl⟩ := hy
        have := hx1 z hz
        omega
      have g2 := bounds_u64 w2
      refine ⟨(⟨b0, xs1.map Int.toNat, i2.toNat⟩ : Ac), ⟨ho1, by show i2.toNat < 2 ^ 64; omega⟩, b, o, rfl, ?_⟩
      have z0 : W.cell? ⟨b, o + i * 3, none⟩ = some (.bool b0) := by simpa [Nat.add_assoc] using c0
      have z1 : W.cell? ⟨b, o + i * 3 + 1, none⟩ = some v1 := by simpa [Nat.add_assoc] using c1
      have y1' : RdU W v1 (pti (xs1.map Int.toNat)) := by rw [pti_toNat hx1]; exact hv1
      have z2 : W.cell? ⟨b, o + i * 3 + 2, none⟩ = some (.int .u64 (i2.toNat : Nat)) := by rw [show ((i2.toNat : Nat) : Int) = i2 by omega]; simpa [Nat.add_assoc] using c2
      exact ⟨v1, z0, by simpa [Nat.add_assoc] using z1, y1', by simpa [Nat.add_assoc] using z2⟩
    obtain ⟨f, hF⟩ := choose_lt each
    refine ⟨(List.range len).map f, ⟨some a, cap, by simp, fun hp => ?_⟩, ?_, by simp; omega, some a, len, cap, rfl, hl, hm, fun h => ?_⟩
    · have hp' : 0 < len := by simpa using hp
      obtain ⟨_, b, o, ha, _⟩ := hF 0 hp'
      refine ⟨b, o, by rw [ha], fun j hj => ?_⟩
      obtain ⟨_, b', o', ha', hc⟩ := hF j (by simpa using hj)
      rw [ha] at ha'
      injection ha' with e1 e2
      subst e1 e2
      simpa using hc
    · intro c hc
      simp only [List.mem_map, List.mem_range] at hc
      obtain ⟨j, hj, rfl⟩ := hc
      exact (hF j hj).1
    · obtain ⟨b, o, ha⟩ := hab h
      exact ⟨b, o, by rw [ha]⟩
end Go.Proofs.Ytdkomhmciihkiaa
/-! LawPairsT -/
namespace Go.Proofs.Ytdkomhmciihkiaa
open Go.RowKit
set_option linter.unusedVariables false
set_option linter.unusedSimpArgs false
set_option maxRecDepth 100000

theorem heavyA_okP {l : List Ac} {most : Nat} (h : heavyL l most = false) : l.length ≤ most ∧ ∀ a ∈ l, a.p.length ≤ 40 := by
  unfold heavyL at h
  rw [Bool.or_eq_false_iff] at h
  refine ⟨by have := of_decide_eq_false h.1; omega, fun a ha => ?_⟩
  have := List.any_eq_false.1 h.2 a ha
  simp at this
  omega
set_option maxHeartbeats 8000000 in
theorem pairsTurn_any (w : World) (k : Int) (far more : Nat) (l m : List Ac) (vl vm : Value) (hl : RdA w vl l) (hm : RdA w vm m) (hlo : ∀ a ∈ l, a.OkV) (hmo : ∀ a ∈ m, a.OkV) (hll : l.length ≤ maxLen) (hml : m.length ≤ maxLen) (hf : far < 2 ^ 64) (hf2 : more < 2 ^ 64) :
    Calls Try.prog 3 #[.int .i64 k, vl, vm, .int .u64 (far : Nat), .int .u64 (more : Nat)] w fun e w' => e = .returned (.bool true) ∧ Below w.heap.size w w' := by
  have HAW := Lib.hid (fun w' => awakeP_any w')
  have HH1 := Lib.hid (fun w' (hb : Below w.heap.size w w') => heavyA_any w' l vl 24 (hl.below hb) hll)
  have HH2 := Lib.hid (fun w' (hb : Below w.heap.size w w') => heavyA_any w' m vm 24 (hm.below hb) hml)
  have HV := Lib.hid (And.intro hl (And.intro hm (And.intro hlo hmo)))
  have HF := Lib.hid (And.intro hf hf2)
  obtain ⟨A1, q1, rfl, z1⟩ := hl
  obtain ⟨A2, q2, rfl, z2⟩ := hm
  clear z1 z2 hlo hmo hll hml hf hf2
  obtain ⟨h1, hh1⟩ : ∃ b, heavyL l 24 = b := ⟨_, rfl⟩
  obtain ⟨h2, hh2⟩ : ∃ b, heavyL m 24 = b := ⟨_, rfl⟩
  rw [hh1] at HH1
  rw [hh2] at HH2
  have HHH := Lib.hid (And.intro hh1 hh2)
  clear hh1 hh2
  cases h1 with
  | true =>
    go_enter Try.func3, Try.ntmps3
    go_wp2_with fail
    refine (HAW.out _).mono ?_
    rintro e w1 ⟨rfl, hb1⟩
    have HB := Lib.hid hb1
    clear hb1
    go_wp2_with fail
    refine (HH1.out _ HB.out).mono ?_
    rintro e w2 ⟨rfl, hw⟩
    obtain rfl := hw.symm
    clear hw
    go_wp2_with fail
    go_ret
    exact ⟨rfl, HB.out⟩
  | false =>
  cases h2 with
  | true =>
    go_enter Try.func3, Try.ntmps3
    go_wp2_with fail
    refine (HAW.out _).mono ?_
    rintro e w1 ⟨rfl, hb1⟩
    have HB := Lib.hid hb1
    clear hb1
    go_wp2_with fail
    refine (HH1.out _ HB.out).mono ?_
    rintro e w2 ⟨rfl, hw⟩
    obtain rfl := hw.symm
    clear hw
    go_wp2_with fail
    refine (HH2.out _ HB.out).mono ?_
    rintro e w2 ⟨rfl, hw⟩
    obtain rfl := hw.symm
    clear hw
    go_wp2_with fail
    go_ret
    exact ⟨rfl, HB.out⟩
  | false =>
    by_cases g1 : k < 1
    · go_enter Try.func3, Try.ntmps3
      go_wp2_with fail
      refine (HAW.out _).mono ?_
      rintro e w1 ⟨rfl, hb1⟩
      have HB := Lib.hid hb1
      clear hb1
      go_wp2_with fail
      refine (HH1.out _ HB.out).mono ?_
      rintro e w2 ⟨rfl, hw⟩
      obtain rfl := hw.symm
      clear hw
      go_wp2_with fail
      refine (HH2.out _ HB.out).mono ?_
      rintro e w2 ⟨rfl, hw⟩
      obtain rfl := hw.symm
      clear hw
      go_wp2_with fail
      go_ret
      exact ⟨rfl, HB.out⟩
    · by_cases g2 : k > 16
      · go_enter Try.func3, Try.ntmps3
        go_wp2_with fail
        refine (HAW.out _).mono ?_
        rintro e w1 ⟨rfl, hb1⟩
        have HB := Lib.hid hb1
        clear hb1
        go_wp2_with fail
        refine (HH1.out _ HB.out).mono ?_
        rintro e w2 ⟨rfl, hw⟩
        obtain rfl := hw.symm
        clear hw
        go_wp2_with fail
        refine (HH2.out _ HB.out).mono ?_
        rintro e w2 ⟨rfl, hw⟩
        obtain rfl := hw.symm
        clear hw
        go_wp2_with fail
        go_ret
        exact ⟨rfl, HB.out⟩
      · by_cases g3 : (more : Int) < (far : Int)
        · go_enter Try.func3, Try.ntmps3
          go_wp2_with fail
          refine (HAW.out _).mono ?_
          rintro e w1 ⟨rfl, hb1⟩
          have HB := Lib.hid hb1
          clear hb1
          go_wp2_with fail
          refine (HH1.out _ HB.out).mono ?_
          rintro e w2 ⟨rfl, hw⟩
          obtain rfl := hw.symm
          clear hw
          go_wp2_with fail
          refine (HH2.out _ HB.out).mono ?_
          rintro e w2 ⟨rfl, hw⟩
          obtain rfl := hw.symm
          clear hw
          go_wp2_with fail
          go_ret
          exact ⟨rfl, HB.out⟩
        · obtain ⟨n, rfl⟩ : ∃ n : Nat, k = n := ⟨k.toNat, by omega⟩
          have o1 := heavyA_okP HHH.out.1
          have o2 := heavyA_okP HHH.out.2
          have n1 : 1 ≤ n := by omega
          have n16 : n ≤ 16 := by omega
          have l24 : l.length ≤ 24 := o1.1
          have m24 : m.length ≤ 24 := o2.1
          have ok1 : ∀ a ∈ l, a.Ok := fun a ha => ⟨o1.2 a ha, (HV.out.2.2.1 a ha).1, (HV.out.2.2.1 a ha).2⟩
          have ok2 : ∀ a ∈ m, a.Ok := fun a ha => ⟨o2.2 a ha, (HV.out.2.2.2 a ha).1, (HV.out.2.2.2 a ha).2⟩
          have HG1 := Lib.hid (fun W (hb : Below w.heap.size w W) => grown_any W n l _ n1 n16 (HV.out.1.below hb) ok1 (by omega))
          have HG2 := Lib.hid (fun W (hb : Below w.heap.size w W) => grown_any W n m _ n1 n16 (HV.out.2.1.below hb) ok2 (by omega))
          have hinl : (playL n [] l).length ≤ 24 := by have := play_len n [] l; simp at this; omega
          have honl : (playL n [] m).length ≤ 24 := by have := play_len n [] m; simp at this; omega
          generalize playL n [] l = in_ at *
          generalize playL n [] m = on at *
          have HLE := Lib.hid (And.intro hinl honl)
          have HC1 := Lib.hid (fun W a b (ha : TrR W a n in_) (hb : TrR W b n on) => count_any W a b n far in_ on ha hb (by omega) (by omega) HF.out.1)
          have HC2 := Lib.hid (fun W a b (ha : TrR W a n in_) (hb : TrR W b n on) => count_any W b a n far on in_ hb ha (by omega) (by omega) HF.out.1)
          have HC3 := Lib.hid (fun W a (ha : TrR W a n in_) => count_any W a a n 0 in_ in_ ha ha (by omega) (by omega) (by omega))
          have HC4 := Lib.hid (fun W a b (ha : TrR W a n in_) (hb : TrR W b n on) => count_any W a b n more in_ on ha hb (by omega) (by omega) HF.out.2)
          have hmore := prs_more (show far ≤ more by omega) in_ on
          rw [prs_swap far on in_] at HC2
          rw [show ((0 : Nat) : Int) = 0 from rfl] at HC3
          generalize (prsL far in_ on).length = c1 at *
          generalize (prsL more in_ on).length = c2 at *
          have g4 : (c1 : Int) ≤ (c2 : Int) := by omega
          clear o1 o2 n1 n16 l24 m24 ok1 ok2 hinl honl hmore
          go_enter Try.func3, Try.ntmps3
          go_wp2_with fail
          refine (HAW.out _).mono ?_
          rintro e w1 ⟨rfl, hb1⟩
          have HB := Lib.hid hb1
          clear hb1
          go_wp2_with fail
          refine (HH1.out _ HB.out).mono ?_
          rintro e w2 ⟨rfl, hw⟩
          obtain rfl := hw.symm
          clear hw
          go_wp2_with fail
          refine (HH2.out _ HB.out).mono ?_
          rintro e w2 ⟨rfl, hw⟩
          obtain rfl := hw.symm
          clear hw
          go_wp2_with fail
          refine (HG1.out _ HB.out).mono ?_
          rintro e w2 ⟨a, va, rfl, ha, hva, hb2⟩
          have HB2 := Lib.hid (HB.out.trans (hb2.mono HB.out.size))
          have HA2 := Lib.hid ha
          have het : Et n in_ := by obtain ⟨r, _, h⟩ := ha.c1; exact h.et
          have HSE := Lib.hid (prs_self het)
          rw [HSE.out] at HC3
          obtain ⟨A4, q4, rfl, _⟩ := hva
          clear ha hb2 het
          go_wp2_with fail
          refine (HG2.out _ HB2.out).mono ?_
          rintro e w3 ⟨b, vb, rfl, hb, hvb, hb3⟩
          have HX3 := Lib.hid (HB2.out.trans (hb3.mono HB2.out.size))
          have HT3 := Lib.hid (And.intro (HA2.out.bel hb3) hb)
          have HY3 := Lib.hid (Below.refl w3.heap.size w3)
          obtain ⟨A6, q6, rfl, _⟩ := hvb
          clear hb hb3
          go_wp2_with fail
          refine (HC1.out w3 a b HT3.out.1 HT3.out.2).mono ?_
          rintro e w4 ⟨rfl, hb⟩
          have HX4 := Lib.hid (show Below w3.heap.size w3 w4 from hb)
          clear hb
          go_wp2_with fail
          refine (HC2.out w4 a b (HT3.out.1.bel HX4.out) (HT3.out.2.bel HX4.out)).mono ?_
          rintro e w5 ⟨rfl, hb⟩
          have HX5 := Lib.hid (HX4.out.trans (hb.mono HX4.out.size))
          clear hb
          go_wp2_with fail
          refine (HC3.out w5 a (HT3.out.1.bel HX5.out)).mono ?_
          rintro e w6 ⟨rfl, hb⟩
          have HX6 := Lib.hid (HX5.out.trans (hb.mono HX5.out.size))
          clear hb
          go_wp2_with fail
          refine (HC4.out w6 a b (HT3.out.1.bel HX6.out) (HT3.out.2.bel HX6.out)).mono ?_
          rintro e w7 ⟨rfl, hb⟩
          have HX7 := Lib.hid (HX6.out.trans (hb.mono HX6.out.size))
          clear hb
          go_wp2_with fail
          go_ret
          exact ⟨rfl, HX3.out.trans (HX7.out.mono HX3.out.size)⟩
end Go.Proofs.Ytdkomhmciihkiaa
