/-
  Texts that the proof of PackTrees leans on, part 8: contracts of functions, and plain laws.
-/
import Derived.Test.YtdkomhmciihkiaaGreatMPackTrees7
import Derived.Defers
import Derived.Recover
import Derived.Deep.Slices
import Derived.Deep.Fields
import Derived.ChangeSame
import Derived.ProofKit
import Derived.OpenShut
/-! SrtF -/
namespace Go.Proofs.YtdkomhmciihkiaaGreat
open Go.RowKit
set_option linter.unusedVariables false
set_option linter.unusedSimpArgs false
set_option maxRecDepth 100000

theorem swp_list {X A M B Y xs ys : List Pe} {a b cnt : Nat} (hx : xs = X ++ (A ++ (M ++ (B ++ Y)))) (hA : A.length = cnt) (hB : B.length = cnt) (ha : X.length = a) (hb : a + cnt + M.length = b) (hl : ys.length = xs.length)
    (h : ∀ t : Nat, t < xs.length → ys[t]? = xs[swp a b cnt t]?) : ys = X ++ (B ++ (M ++ (A ++ Y))) := by
  have hlen : xs.length = a + cnt + M.length + cnt + Y.length := by rw [hx]; simp; omega
  refine List.ext_getElem? fun t => ?_
  by_cases ht : t < xs.length
  · rw [h t ht, hx]
    unfold swp
    by_cases h1 : t < a
    · rw [if_neg (by omega), if_neg (by omega), List.getElem?_append_left (by omega), List.getElem?_append_left (by omega)]
    · rw [List.getElem?_append_right (l₁ := X) (i := t) (by omega)]
      by_cases h2 : t < a + cnt
      · rw [if_pos (by omega), List.getElem?_append_left (l₁ := B) (by omega), List.getElem?_append_right (by omega), List.getElem?_append_right (by omega), List.getElem?_append_right (by omega), List.getElem?_append_left (by omega)]
        congr 1; omega
      · rw [List.getElem?_append_right (l₁ := B) (by omega)]
        by_cases h3 : t < b
        · rw [if_neg (by omega), if_neg (by omega), List.getElem?_append_left (l₁ := M) (by omega), List.getElem?_append_right (by omega), List.getElem?_append_right (by omega), List.getElem?_append_left (by omega)]
          congr 1; omega
        · rw [List.getElem?_append_right (l₁ := M) (by omega)]
          by_cases h4 : t < b + cnt
          · rw [if_neg (by omega), if_pos (by omega), List.getElem?_append_left (l₁ := A) (by omega), List.getElem?_append_right (by omega), List.getElem?_append_left (by omega)]
            congr 1; omega
          · rw [if_neg (by omega), if_neg (by omega), List.getElem?_append_right (l₁ := A) (by omega), List.getElem?_append_right (by omega), List.getElem?_append_right (by omega), List.getElem?_append_right (by omega), List.getElem?_append_right (by omega)]
            congr 1; omega
  · rw [List.getElem?_eq_none (by omega), List.getElem?_eq_none]
    simp only [List.length_append]
    omega
/-- two ranges exchanged -/
theorem swapL_any (W0 w : World) (g n a b cnt m c : Nat) (X A M B Y : List Pe) (hA : A.length = cnt) (hB : B.length = cnt) (ha : X.length = a) (hb : a + cnt + M.length = b) (hl : b + cnt + Y.length = m) (hm : m ≤ 1000) (h : PR W0 w g n (X ++ (A ++ (M ++ (B ++ Y))))) :
    Calls Tryz.prog 262 #[.slice (some ⟨g, 0, none⟩) m c, .int .i64 (a : Nat), .int .i64 (b : Nat), .int .i64 (cnt : Nat), .func (.func 205) #[] #[]] w fun e w' => e = .returned (.tuple #[]) ∧ PR W0 w' g n (X ++ (B ++ (M ++ (A ++ Y)))) := by
  refine (swapR_any W0 w g n a b cnt m c _ (by simp; omega) hm (by omega) (by omega) h).mono ?_
  rintro e w' ⟨ys, h1, h2, h3, h4⟩
  rw [swp_list rfl hA hB ha hb h3 h4] at h2
  exact ⟨h1, h2⟩
structure RotI (W0 wr : World) (g n mm : Nat) (X U V Y P U' V' Q : List Pe) : Prop where
  nu : U' ≠ []
  nv : V' ≠ []
  eq' : P ++ (V' ++ (U' ++ Q)) = V ++ U
  len : X.length + P.length + U'.length = mm
  pr : PR W0 wr g n (X ++ (P ++ (U' ++ (V' ++ (Q ++ Y)))))
def RotR (W0 : World) (g n : Nat) (xs : List Pe) (e : Ending) (w' : World) : Prop := e = .returned (.tuple #[]) ∧ PR W0 w' g n xs
set_option maxHeartbeats 4000000 in
theorem rot_any (W0 w : World) (g n a mm b m c : Nat) (X U V Y : List Pe) (ha : X.length = a) (hmm : a + U.length = mm) (hb : mm + V.length = b) (hm : b + Y.length = m) (hmx : m ≤ 1000) (hU : U ≠ []) (hV : V ≠ []) (h : PR W0 w g n (X ++ (U ++ (V ++ Y)))) :
    Calls Tryz.prog 260 #[.slice (some ⟨g, 0, none⟩) m c, .int .i64 (a : Nat), .int .i64 (mm : Nat), .int .i64 (b : Nat), .func (.func 205) #[] #[]] w fun e w' => RotR W0 g n (X ++ (V ++ (U ++ Y))) e w' := by
  have H0 := Lib.hid (show RotI W0 w g n mm X U V Y [] U V [] from ⟨hU, hV, by simp, by simp; omega, by simpa using h⟩)
  have HD := Lib.hid (And.intro ha (And.intro hmm (And.intro hb (And.intro hm hmx))))
  have HU := Lib.hid (show wrap64 ((mm : Int) - (a : Int)) = ((U.length : Nat) : Int) from wrap_sub (by omega) (by omega))
  have HV := Lib.hid (show wrap64 ((b : Int) - (mm : Int)) = ((V.length : Nat) : Int) from wrap_sub (by omega) (by omega))
  clear ha hmm hb hm hmx hU hV h
  go_enter Tryz.func260, Tryz.ntmps260
  go_wp2_with fail
  go_loopw [10, 11] (fun iv jv wr => ∃ P U' V' Q : List Pe, iv = .int .i64 (U'.length : Nat) ∧ jv = .int .i64 (V'.length : Nat) ∧ RotI W0 wr g n mm X U V Y P U' V' Q) (fun iv jv _ => (intOf iv).toNat + (intOf jv).toNat)
  case atStart => exact ⟨[], U, V, [], by rw [HU.out], by rw [HV.out], H0.out⟩
  case round =>
    obtain ⟨P, U', V', Q, rfl, rfl, hI⟩ := hrel
    have HI := Lib.hid hI
    have hlen := congrArg List.length hI.eq'
    simp only [List.length_append] at hlen
    have hnu := List.length_pos_iff.2 hI.nu
    have hnv := List.length_pos_iff.2 hI.nv
    have hil := hI.len
    obtain ⟨h1, h2, h3, h4, h5⟩ := HD.out
    obtain ⟨i, hi⟩ : ∃ i, U'.length = i := ⟨_, rfl⟩
    obtain ⟨j, hj⟩ : ∃ j, V'.length = j := ⟨_, rfl⟩
    rw [hi] at hlen hnu hil ⊢
    rw [hj] at hlen hnv ⊢
    obtain ⟨s, hs⟩ : ∃ s, X.length + P.length = s := ⟨_, rfl⟩
    have HWS := Lib.hid (show wrap64 ((mm : Int) - (i : Int)) = (s : Int) from wrap_sub (by omega) (by omega))
    have HN := Lib.hid (And.intro hi (And.intro hj (And.intro hlen (And.intro hnu (And.intro hnv (And.intro hil hs))))))
    have hxp : (X ++ P).length = s := by simp; omega
    rcases Nat.lt_trichotomy i j with hlt | heq | hgt
    · have hd1 : ¬ (i : Int) = (j : Int) := by omega
      have hd2 : ((i : Int) != (j : Int)) = true := by simp; omega
      have hd3 : ¬ (i : Int) > (j : Int) := by omega
      have HWQ := Lib.hid (show wrap64 ((mm : Int) + (j : Int)) = ((mm + j : Nat) : Int) from wrap_add rfl (by omega))
      have HWR := Lib.hid (show wrap64 (((mm + j : Nat) : Int) - (i : Int)) = ((mm + j - i : Nat) : Int) from wrap_sub (by omega) (by omega))
      have HWJ := Lib.hid (show wrap64 ((j : Int) - (i : Int)) = ((j - i : Nat) : Int) from wrap_sub (by omega) (by omega))
      have eV : V' = V'.take (j - i) ++ V'.drop (j - i) := (List.take_append_drop _ _).symm
      have lA : (V'.take (j - i)).length = j - i := by rw [List.length_take]; omega
      have lB : (V'.drop (j - i)).length = i := by rw [List.length_drop]; omega
      obtain ⟨A', hA'⟩ : ∃ A', V'.take (j - i) = A' := ⟨_, rfl⟩
      obtain ⟨B, hB⟩ : ∃ B, V'.drop (j - i) = B := ⟨_, rfl⟩
      rw [hA'] at eV lA
      rw [hB] at eV lB
      have HCON := Lib.hid (swapL_any W0 wr g n s (mm + j - i) i m c (X ++ P) U' A' B (Q ++ Y) hi lB hxp (by omega) (by simp; omega) h5 (by have := hI.pr; rw [eV] at this; simpa using this))
      have HNXT := Lib.hid (show ∀ w2, PR W0 w2 g n ((X ++ P) ++ (B ++ (A' ++ (U' ++ (Q ++ Y))))) → RotI W0 w2 g n mm X U V Y P B A' (U' ++ Q) from fun w2 h => ⟨(by intro e; rw [e] at lB; simp at lB; omega), (by intro e; rw [e] at lA; simp at lA; omega), by have := hI.eq'; rw [eV] at this; rw [← this]; simp, by omega, by simpa using h⟩)
      have HLL := Lib.hid (And.intro lA lB)
      have HLT := Lib.hid hlt
      clear hI hlen hnu hnv hil h1 h2 h3 h4 h5 hi hj hs hxp hlt eV lA lB hA' hB
      go_wp2_with fail
      rw [HWS.out, HWQ.out, HWR.out]
      refine HCON.out.mono ?_
      rintro e w2 ⟨rfl, hys⟩
      have HP2 := Lib.hid hys
      clear hys
      go_wp2_with fail
      go_roundw
      case rel => exact ⟨P, B, A', U' ++ Q, by rw [HLL.out.2], by rw [HWJ.out, HLL.out.1], HNXT.out _ HP2.out⟩
      case measure => have h9 := HLT.out; rw [intOf_nat, intOf_of' HWJ.out, intOf_nat]; have := HN.out.2.2.2.1; omega
    · subst heq
      have hd1 : (i : Int) = (i : Int) := rfl
      have hd2 : ((i : Int) != (i : Int)) = false := by simp
      have HCON := Lib.hid (swapL_any W0 wr g n s mm i m c (X ++ P) U' [] V' (Q ++ Y) hi hj hxp (by simp; omega) (by simp; omega) h5 (by have := hI.pr; simpa using this))
      have HEQ := Lib.hid (show (X ++ P) ++ (V' ++ ([] ++ (U' ++ (Q ++ Y)))) = X ++ (V ++ (U ++ Y)) from by have := congrArg (fun l => X ++ (l ++ Y)) hI.eq'; simpa using this)
      clear hI hlen hnu hnv hil h1 h2 h3 h4 h5 hi hj hs hxp
      go_wp2_with fail
      rw [HWS.out]
      refine HCON.out.mono ?_
      rintro e w2 ⟨rfl, hys⟩
      have HP2 := Lib.hid hys
      clear hys
      go_wp2_with fail
      go_end0
      exact ⟨rfl, by rw [← HEQ.out]; exact HP2.out⟩
    · have hd1 : ¬ (i : Int) = (j : Int) := by omega
      have hd2 : ((i : Int) != (j : Int)) = true := by simp; omega
      have hd3 : (i : Int) > (j : Int) := by omega
      have HWJ := Lib.hid (show wrap64 ((i : Int) - (j : Int)) = ((i - j : Nat) : Int) from wrap_sub (by omega) (by omega))
      have eU : U' = U'.take j ++ U'.drop j := (List.take_append_drop _ _).symm
      have lA : (U'.take j).length = j := by rw [List.length_take]; omega
      have lB : (U'.drop j).length = i - j := by rw [List.length_drop]; omega
      obtain ⟨A', hA'⟩ : ∃ A', U'.take j = A' := ⟨_, rfl⟩
      obtain ⟨B, hB⟩ : ∃ B, U'.drop j = B := ⟨_, rfl⟩
      rw [hA'] at eU lA
      rw [hB] at eU lB
      have HCON := Lib.hid (swapL_any W0 wr g n s mm j m c (X ++ P) A' B V' (Q ++ Y) lA hj hxp (by omega) (by simp; omega) h5 (by have := hI.pr; rw [eU] at this; simpa using this))
      have HNXT := Lib.hid (show ∀ w2, PR W0 w2 g n ((X ++ P) ++ (V' ++ (B ++ (A' ++ (Q ++ Y))))) → RotI W0 w2 g n mm X U V Y (P ++ V') B A' Q from fun w2 h => ⟨(by intro e; rw [e] at lB; simp at lB; omega), (by intro e; rw [e] at lA; simp at lA; omega), by have := hI.eq'; rw [eU] at this; rw [← this]; simp, by rw [List.length_append]; omega, by simpa using h⟩)
      have HLL := Lib.hid (And.intro lA lB)
      have HLT := Lib.hid hgt
      clear hI hlen hnu hnv hil h1 h2 h3 h4 h5 hi hj hs hxp hgt eU lA lB hA' hB
      go_wp2_with fail
      rw [HWS.out]
      refine HCON.out.mono ?_
      rintro e w2 ⟨rfl, hys⟩
      have HP2 := Lib.hid hys
      clear hys
      go_wp2_with fail
      go_roundw
      case rel => exact ⟨P ++ V', B, A', Q, by rw [HWJ.out, HLL.out.2], by rw [HLL.out.1], HNXT.out _ HP2.out⟩
      case measure => have h9 := HLT.out; rw [intOf_of' HWJ.out, intOf_nat, intOf_nat]; have := HN.out.2.2.2.2.1; omega
end Go.Proofs.YtdkomhmciihkiaaGreat
/-! SrtG -/
namespace Go.Proofs.YtdkomhmciihkiaaGreat
open Go.RowKit
set_option linter.unusedVariables false
set_option linter.unusedSimpArgs false
set_option maxRecDepth 100000

theorem mid_eq {i j h : Nat} (e : (i + j) / 2 = h) (hb : i + j ≤ 100000) : wrap64 (IntKind.u64.wrap (wrap64 ((i : Int) + (j : Int))) / 2) = ((h : Nat) : Int) := by
  rw [show wrap64 ((i : Int) + (j : Int)) = ((i + j : Nat) : Int) by unfold wrap64; omega, show IntKind.u64.wrap ((i + j : Nat) : Int) = ((i + j : Nat) : Int) by rw [IntKind.wrap_u64]; omega]
  unfold wrap64; omega
theorem swap_mid2 (A : List Pe) (x y : Pe) (B : List Pe) : ((A ++ x :: y :: B).set A.length y).set (A.length + 1) x = A ++ y :: x :: B := by
  rw [List.set_append_right _ _ (by omega), Nat.sub_self, List.set_append_right _ _ (by omega), Nat.add_sub_cancel_left]
  rfl
/-- the runs are put together -/
def MrgR (W0 : World) (g n : Nat) (X L Y : List Pe) (e : Ending) (w' : World) : Prop := ∃ M, e = .returned (.tuple #[]) ∧ PR W0 w' g n (X ++ (M ++ Y)) ∧ M.length = L.length ∧ Stb L M ∧ Srt M
/-- the call as it is compared: two elements of the row -/
theorem ord_row {W0 wr : World} {g n k : Nat} {ys : List Pe} (hpr : PR W0 wr g n ys) {x y : Pe} (hx : x ∈ ys) (hy : y ∈ ys) (k1 : 1 ≤ k) (k16 : k ≤ 16) (hk : ∀ x ∈ ys, x.2.p.length = k ∧ ∀ q ∈ x.2.p, q < 2 ^ 64) :
    ∀ W, Below wr.heap.size wr W → Calls Tryz.prog 205 #[.agg #[x.1, .int .u64 (x.2.v : Nat)], .agg #[y.1, .int .u64 (y.2.v : Nat)]] W fun e w' => e = .returned (.int .i64 (Zb.cmp x.2.p y.2.p)) ∧ Below W.heap.size W w' := fun W hb => by
  have h1 := hk x hx
  have h2 := hk y hy
  have hb2 := hpr.bel.trans (hb.mono hpr.bel.size)
  exact order_any W x.2.p y.2.p x.1 y.1 x.2.v y.2.v ((hpr.pts x hx).below hb2) ((hpr.pts y hy).below hb2) (by rw [h1.1, h2.1]) (by rw [h1.1]; exact k1) (by rw [h1.1]; exact k16) h1.2 h2.2
set_option maxHeartbeats 8000000 in
theorem sym_left (W0 w : World) (g n a mm b m c k : Nat) (X B Y : List Pe) (x : Pe) (ha : X.length = a) (hmm : a + 1 = mm) (hb : mm + B.length = b) (hm : b + Y.length = m) (hmx : m ≤ 1000) (k1 : 1 ≤ k) (k16 : k ≤ 16) (h : PR W0 w g n (X ++ (x :: (B ++ Y))))
    (hk : ∀ x' ∈ X ++ (x :: (B ++ Y)), x'.2.p.length = k ∧ ∀ q ∈ x'.2.p, q < 2 ^ 64) (hB : Srt B) :
    Calls Tryz.prog 256 #[.slice (some ⟨g, 0, none⟩) m c, .int .i64 (a : Nat), .int .i64 (mm : Nat), .int .i64 (b : Nat), .func (.func 205) #[] #[]] w fun e w' => MrgR W0 g n X (x :: B) Y e w' := by
  have hent := enters_lit' Tryz.func205 (by kernel_rfl) (by kernel_rfl)
  have HP0 := Lib.hid h
  have HD := Lib.hid (And.intro ha (And.intro hmm (And.intro hb (And.intro hm hmx))))
  have HK := Lib.hid (And.intro hk (And.intro k1 (And.intro k16 hB)))
  have HW1 := Lib.hid (show wrap64 ((mm : Int) - (a : Int)) = ((1 : Nat) : Int) from wrap_sub (by omega) (by omega))
  have hw1 : wrap64 ((mm : Int) - (a : Int)) = 1 := HW1.out
  clear ha hmm hb hm hmx k1 k16 h hk hB
  go_enter Tryz.func256, Tryz.ntmps256
  go_wp2_with fail
  go_loopw [10, 11, 12] (fun iv jv _ wr => ∃ q r : Nat, iv = .int .i64 ((mm + q : Nat) : Int) ∧ jv = .int .i64 ((mm + r : Nat) : Int) ∧ q ≤ r ∧ r ≤ B.length ∧ (∀ t (h : t < B.length), t < q → ek B[t] < ek x) ∧ (∀ t (h : t < B.length), r ≤ t → ek x ≤ ek B[t]) ∧ PR W0 wr g n (X ++ (x :: (B ++ Y)))) (fun iv jv _ _ => (intOf jv).toNat - (intOf iv).toNat)
  case atStart => exact ⟨0, B.length, rfl, by rw [HD.out.2.2.1], Nat.zero_le _, Nat.le_refl _, (fun t _ h => by omega), (fun t h h' => by omega), HP0.out⟩
  case round =>
    obtain ⟨q, r, rfl, rfl, hqr, hrl, hlo, hhi, hpr⟩ := hrel
    have HI := Lib.hid (And.intro hqr (And.intro hrl (And.intro hlo (And.intro hhi hpr))))
    by_cases hlt : q < r
    · obtain ⟨d1, d2, d3, d4, d5⟩ := HD.out
      obtain ⟨i, hi⟩ : ∃ i, mm + q = i := ⟨_, rfl⟩
      obtain ⟨j, hj⟩ : ∃ j, mm + r = j := ⟨_, rfl⟩
      obtain ⟨h, hh⟩ : ∃ h, (i + j) / 2 = h := ⟨_, rfl⟩
      obtain ⟨t, ht⟩ : ∃ t, h = mm + t := ⟨h - mm, by omega⟩
      have htB : t < B.length := by omega
      have hqt : q ≤ t ∧ t < r := by omega
      have ey : (X ++ (x :: (B ++ Y)))[h]? = some B[t] := by
        rw [List.getElem?_append_right (by omega), show h - X.length = t + 1 by omega, List.getElem?_cons_succ, List.getElem?_append_left htB, List.getElem?_eq_getElem htB]
      have ex : (X ++ (x :: (B ++ Y)))[a]? = some x := by
        rw [List.getElem?_append_right (by omega), show a - X.length = 0 by omega]; rfl
      obtain ⟨k0, k1, ry⟩ := hpr.at2 h _ ey
      obtain ⟨q0, q1, rx⟩ := hpr.at2 a _ ex
      have HOR := Lib.hid (ord_row hpr (List.mem_of_getElem? ey) (List.mem_of_getElem? ex) HK.out.2.1 HK.out.2.2.1 HK.out.1)
      have HLT := Lib.hid (show ek B[t] < ek x → ∀ s (h : s < B.length), s < t + 1 → ek B[s] < ek x from fun h0 s hs h' => by
        by_cases e : s = t
        · subst e; exact h0
        · have := List.pairwise_iff_getElem.1 HK.out.2.2.2 s t hs htB (by omega); omega)
      have HGE := Lib.hid (show ¬ ek B[t] < ek x → ∀ s (h : s < B.length), t ≤ s → ek x ≤ ek B[s] from fun h0 s hs h' => by
        by_cases e : s = t
        · subst e; omega
        · have := List.pairwise_iff_getElem.1 HK.out.2.2.2 t s htB hs (by omega); omega)
      have hth := fun r => hpr.thaw r
      have hgl := hpr.lt
      generalize B[t] = y at *
      obtain ⟨ux, px, vx⟩ := x
      obtain ⟨uy, py, vy⟩ := y
      simp only at k0 k1 q0 q1 rx ry HOR
      obtain ⟨z, hz⟩ : ∃ z, Zb.cmp py px = z := ⟨_, rfl⟩
      rw [hz] at HOR
      have HZ := Lib.hid (show z < 0 ↔ pkey py < pkey px from hz ▸ cmp_neg py px)
      have hij : (i : Int) < (j : Int) := by omega
      have hh1 : (h : Int) < (m : Int) := by omega
      have hh2 : (0 : Int) ≤ (h : Int) := by omega
      have ha1 : (a : Int) < (m : Int) := by omega
      have ha2 : (0 : Int) ≤ (a : Int) := by omega
      have HN := Lib.hid (And.intro hi (And.intro hj (And.intro ht (And.intro hqt htB))))
      have HW2 := Lib.hid (show wrap64 ((h : Int) + 1) = ((h + 1 : Nat) : Int) from wrap_succ (by omega))
      have HMW := Lib.hid (mid_eq hh (by omega))
      rw [hi, hj]
      obtain ⟨Ax, cx, rfl, _⟩ := RdU.point rx
      obtain ⟨Ay, cy, rfl, _⟩ := RdU.point ry
      clear hlo hhi hpr hqr hrl hz ey ex rx ry hi hj hh ht htB hqt hlt d1 d2 d3 d4 d5
      go_wp2_with fail
      rw [HMW.out]
      refine wp_region_vals 10 [fun z9 _ => z9 = .func (.func 205) #[] #[],
        fun z9 _ => z9 = .slice (some ⟨g, 0, none⟩) m c,
        fun z9 _ => z9 = .int .i64 (h : Nat),
        fun z9 _ => z9 = .pointer (some ⟨g, h * 2, none⟩),
        fun z9 _ => z9 = .agg #[.slice Ay py.length cy, .int .u64 (vy : Nat)],
        fun z9 _ => z9 = .slice (some ⟨g, 0, none⟩) m c,
        fun z9 _ => z9 = .int .i64 (a : Nat),
        fun z9 _ => z9 = .pointer (some ⟨g, a * 2, none⟩),
        fun z9 _ => z9 = .agg #[.slice Ax px.length cx, .int .u64 (vx : Nat)],
        fun z9 _ => z9 = .int .i64 z]
        (by kernel_rfl) (by kernel_rfl) (by kernel_rfl) (by kernel_rfl) ?_ ?_ ?_
      · intro V hV v w1 w2 h hb
        simp only [List.mem_cons, List.not_mem_nil, or_false] at hV
        rcases hV with rfl | rfl | rfl | rfl | rfl | rfl | rfl | rfl | rfl | rfl
        all_goals first | exact h | (exact h)
      · intro iq oq hiq hoq
        match iq, hiq with
        | 0, _ =>
        obtain rfl := Option.some.inj hoq
        intro a1 w1 K hk hK
        have e4 : a1.tmps.getD 4 undef = .func (.func 205) #[] #[] := hk.same 4 (by simp)
        simp [Region.wanted, Oper.wp, Act.eval, go_sem, e4, k0, k1, q0, q1, hh1, hh2, ha1, ha2, hgl, hent]
        exact hK _ _ (Below.refl _ _) rfl
        | 1, _ =>
        obtain rfl := Option.some.inj hoq
        intro a1 w1 K hk hK
        have e0 : a1.tmps.getD 0 undef = .slice (some ⟨g, 0, none⟩) m c := hk.same 0 (by simp)
        simp [Region.wanted, Oper.wp, Act.eval, go_sem, e0, k0, k1, q0, q1, hh1, hh2, ha1, ha2, hgl, hent]
        exact hK _ _ (Below.refl _ _) rfl
        | 2, _ =>
        obtain rfl := Option.some.inj hoq
        intro a1 w1 K hk hK
        have e12 : a1.tmps.getD 12 undef = .int .i64 (h : Nat) := hk.same 12 (by simp)
        simp [Region.wanted, Oper.wp, Act.eval, go_sem, e12, k0, k1, q0, q1, hh1, hh2, ha1, ha2, hgl, hent]
        exact hK _ _ (Below.refl _ _) rfl
        | 3, _ =>
        obtain rfl := Option.some.inj hoq
        intro a1 w1 K hk hK
        have d41 : a1.tmps.getD 41 undef = .slice (some ⟨g, 0, none⟩) m c := hk.deps ⟨1, .data⟩ (by simp) rfl _ _ rfl rfl
        have d42 : a1.tmps.getD 42 undef = .int .i64 (h : Nat) := hk.deps ⟨2, .data⟩ (by simp) rfl _ _ rfl rfl
        simp [Region.wanted, Oper.wp, Act.eval, go_sem, d41, d42, k0, k1, q0, q1, hh1, hh2, ha1, ha2, hgl, hent]
        exact hK _ _ (Below.refl _ _) rfl
        | 4, _ =>
        obtain rfl := Option.some.inj hoq
        intro a1 w1 K hk hK
        have d43 : a1.tmps.getD 43 undef = .pointer (some ⟨g, h * 2, none⟩) := hk.deps ⟨3, .data⟩ (by simp) rfl _ _ rfl rfl
        have c0 : w1.cell? ⟨g, h * 2, none⟩ = some (.slice Ay py.length cy) := Below.keeps hk.ext _ _ (by simp [go_sem, k0, k1, q0, q1, hh1, hh2, ha1, ha2, hgl, hent])
        have c1 : w1.cell? ⟨g, h * 2 + 1, none⟩ = some (.int .u64 (vy : Nat)) := Below.keeps hk.ext _ _ (by simp [go_sem, k0, k1, q0, q1, hh1, hh2, ha1, ha2, hgl, hent])
        have c2 : w1.cell? ⟨g, a * 2, none⟩ = some (.slice Ax px.length cx) := Below.keeps hk.ext _ _ (by simp [go_sem, k0, k1, q0, q1, hh1, hh2, ha1, ha2, hgl, hent])
        have c3 : w1.cell? ⟨g, a * 2 + 1, none⟩ = some (.int .u64 (vx : Nat)) := Below.keeps hk.ext _ _ (by simp [go_sem, k0, k1, q0, q1, hh1, hh2, ha1, ha2, hgl, hent])
        simp [Region.wanted, Oper.wp, Act.eval, go_sem, d43, c0, c1, c2, c3, k0, k1, q0, q1, hh1, hh2, ha1, ha2, hgl, hent]
        exact hK _ _ (Below.refl _ _) rfl
        | 5, _ =>
        obtain rfl := Option.some.inj hoq
        intro a1 w1 K hk hK
        have e0 : a1.tmps.getD 0 undef = .slice (some ⟨g, 0, none⟩) m c := hk.same 0 (by simp)
        simp [Region.wanted, Oper.wp, Act.eval, go_sem, e0, k0, k1, q0, q1, hh1, hh2, ha1, ha2, hgl, hent]
        exact hK _ _ (Below.refl _ _) rfl
        | 6, _ =>
        obtain rfl := Option.some.inj hoq
        intro a1 w1 K hk hK
        have e1 : a1.tmps.getD 1 undef = .int .i64 (a : Nat) := hk.same 1 (by simp)
        simp [Region.wanted, Oper.wp, Act.eval, go_sem, e1, k0, k1, q0, q1, hh1, hh2, ha1, ha2, hgl, hent]
        exact hK _ _ (Below.refl _ _) rfl
        | 7, _ =>
        obtain rfl := Option.some.inj hoq
        intro a1 w1 K hk hK
        have d45 : a1.tmps.getD 45 undef = .slice (some ⟨g, 0, none⟩) m c := hk.deps ⟨5, .data⟩ (by simp) rfl _ _ rfl rfl
        have d46 : a1.tmps.getD 46 undef = .int .i64 (a : Nat) := hk.deps ⟨6, .data⟩ (by simp) rfl _ _ rfl rfl
        simp [Region.wanted, Oper.wp, Act.eval, go_sem, d45, d46, k0, k1, q0, q1, hh1, hh2, ha1, ha2, hgl, hent]
        exact hK _ _ (Below.refl _ _) rfl
        | 8, _ =>
        obtain rfl := Option.some.inj hoq
        intro a1 w1 K hk hK
        have d47 : a1.tmps.getD 47 undef = .pointer (some ⟨g, a * 2, none⟩) := hk.deps ⟨7, .data⟩ (by simp) rfl _ _ rfl rfl
        have c0 : w1.cell? ⟨g, h * 2, none⟩ = some (.slice Ay py.length cy) := Below.keeps hk.ext _ _ (by simp [go_sem, k0, k1, q0, q1, hh1, hh2, ha1, ha2, hgl, hent])
        have c1 : w1.cell? ⟨g, h * 2 + 1, none⟩ = some (.int .u64 (vy : Nat)) := Below.keeps hk.ext _ _ (by simp [go_sem, k0, k1, q0, q1, hh1, hh2, ha1, ha2, hgl, hent])
        have c2 : w1.cell? ⟨g, a * 2, none⟩ = some (.slice Ax px.length cx) := Below.keeps hk.ext _ _ (by simp [go_sem, k0, k1, q0, q1, hh1, hh2, ha1, ha2, hgl, hent])
        have c3 : w1.cell? ⟨g, a * 2 + 1, none⟩ = some (.int .u64 (vx : Nat)) := Below.keeps hk.ext _ _ (by simp [go_sem, k0, k1, q0, q1, hh1, hh2, ha1, ha2, hgl, hent])
        simp [Region.wanted, Oper.wp, Act.eval, go_sem, d47, c0, c1, c2, c3, k0, k1, q0, q1, hh1, hh2, ha1, ha2, hgl, hent]
        exact hK _ _ (Below.refl _ _) rfl
        | 9, _ =>
        obtain rfl := Option.some.inj hoq
        intro a1 w1 K hk hK
        have d40 : a1.tmps.getD 40 undef = .func (.func 205) #[] #[] := hk.deps ⟨0, .data⟩ (by simp) rfl _ _ rfl rfl
        have d44 : a1.tmps.getD 44 undef = .agg #[.slice Ay py.length cy, .int .u64 (vy : Nat)] := hk.deps ⟨4, .data⟩ (by simp) rfl _ _ rfl rfl
        have d48 : a1.tmps.getD 48 undef = .agg #[.slice Ax px.length cx, .int .u64 (vx : Nat)] := hk.deps ⟨8, .data⟩ (by simp) rfl _ _ rfl rfl
        simp [Region.wanted, Oper.wp, Act.eval, go_sem, d40, d44, d48, k0, k1, q0, q1, hh1, hh2, ha1, ha2, hgl, hent]
        refine (HOR.out _ (below_trans (by repeat (first | exact Below.refl _ _ | (refine Below.drew ?_) | (refine below_drewN' ?_ _) | (refine below_alloc' ?_ _) | (refine Below.setCell ?_ (by first | exact Nat.le_refl _ | (simp; done) | (simp; omega)) _))) hk.ext)).mono ?_
        rintro e w9 ⟨rfl, hb9⟩
        exact hK _ _ hb9 rfl
      · intro vs w3 hl hb3 hv
        match vs, hl with
        | [v0, v1, v2, v3, v4, v5, v6, v7, v8, v9], _ =>
        obtain rfl : v0 = .func (.func 205) #[] #[] := hv 0 (by omega)
        obtain rfl : v1 = .slice (some ⟨g, 0, none⟩) m c := hv 1 (by omega)
        obtain rfl : v2 = .int .i64 (h : Nat) := hv 2 (by omega)
        obtain rfl : v3 = .pointer (some ⟨g, h * 2, none⟩) := hv 3 (by omega)
        obtain rfl : v4 = .agg #[.slice Ay py.length cy, .int .u64 (vy : Nat)] := hv 4 (by omega)
        obtain rfl : v5 = .slice (some ⟨g, 0, none⟩) m c := hv 5 (by omega)
        obtain rfl : v6 = .int .i64 (a : Nat) := hv 6 (by omega)
        obtain rfl : v7 = .pointer (some ⟨g, a * 2, none⟩) := hv 7 (by omega)
        obtain rfl : v8 = .agg #[.slice Ax px.length cx, .int .u64 (vx : Nat)] := hv 8 (by omega)
        obtain rfl : v9 = .int .i64 z := hv 9 (by omega)
        clear hv
        simp only [putAll, List.take_succ_cons, List.take_zero, List.drop_succ_cons, List.drop_zero, Act.put, List.setIfInBounds_toArray, List.set_cons_succ, List.set_cons_zero]
        have HP3 := Lib.hid (HI.out.2.2.2.2.step (show Below wr.heap.size wr w3 from hb3))
        clear hb3 hth k0 k1 q0 q1 hgl
        by_cases hz0 : z < 0
        · have HL := Lib.hid (HLT.out (HZ.out.1 hz0))
          go_wp2_with fail
          go_roundw
          case rel =>
            obtain ⟨n1, n2, n3, n4, n5⟩ := HN.out
            exact ⟨t + 1, r, by rw [HW2.out]; congr 2; omega, by rw [n2], by omega, HI.out.2.1, HL.out, HI.out.2.2.2.1, HP3.out⟩
          case measure =>
            obtain ⟨n1, n2, n3, n4, n5⟩ := HN.out
            rw [intOf_nat, intOf_of' HW2.out, intOf_nat]; omega
        · have HL := Lib.hid (HGE.out (fun h => hz0 (HZ.out.2 h)))
          go_wp2_with fail
          go_roundw
          case rel =>
            obtain ⟨n1, n2, n3, n4, n5⟩ := HN.out
            exact ⟨q, t, by rw [n1], by rw [n3], by omega, by omega, HI.out.2.2.1, HL.out, HP3.out⟩
          case measure =>
            obtain ⟨n1, n2, n3, n4, n5⟩ := HN.out
            rw [intOf_nat, intOf_nat, intOf_nat]; omega
    · obtain rfl : q = r := by omega
      obtain ⟨d1, d2, d3, d4, d5⟩ := HD.out
      obtain ⟨i, hi⟩ : ∃ i, mm + q = i := ⟨_, rfl⟩
      obtain ⟨j, hj⟩ : ∃ j, a + q = j := ⟨_, rfl⟩
      have hij : ¬ (i : Int) < (i : Int) := by omega
      have HW3 := Lib.hid (show wrap64 ((i : Int) - 1) = (j : Int) from by have := wrap_sub (a := i) (i := 1) (p := j) (by omega) (by omega); exact this)
      have HJ := Lib.hid hj
      rw [hi]
      have HF := Lib.hid (show ∀ w', PR W0 w' g n (X ++ (B.take q ++ (x :: (B.drop q ++ Y)))) → MrgR W0 g n X (x :: B) Y (.returned (.tuple #[])) w' from fun w' hp => by
        have h1 : ∀ y ∈ B.take q, ek y < ek x := fun y hy => by
          obtain ⟨i, hi, rfl⟩ := List.mem_iff_getElem.1 hy
          rw [List.length_take] at hi
          rw [List.getElem_take]
          exact hlo i (by omega) (by omega)
        have h2 : ∀ y ∈ B.drop q, ek x ≤ ek y := fun y hy => by
          obtain ⟨i, hi, rfl⟩ := List.mem_iff_getElem.1 hy
          rw [List.length_drop] at hi
          rw [List.getElem_drop]
          exact hhi (q + i) (by omega) (by omega)
        have h3 := HK.out.2.2.2
        rw [← List.take_append_drop q B] at h3
        obtain ⟨s1, s2, s3⟩ := List.pairwise_append.1 h3
        refine ⟨B.take q ++ (x :: B.drop q), rfl, by simpa using hp, by simp; omega, ?_, ?_⟩
        · have e := Stb.swap (X := [x]) (Y := B.take q) (fun u hu v hv => by obtain rfl := List.mem_singleton.1 hu; have := h1 v hv; omega)
          have e2 := e.append (Stb.refl (B.drop q))
          simpa using e2
        · refine List.pairwise_append.2 ⟨s1, List.pairwise_cons.2 ⟨h2, s2⟩, fun u hu v hv => ?_⟩
          rcases List.mem_cons.1 hv with rfl | hv
          · exact Nat.le_of_lt (h1 u hu)
          · exact s3 u hu v hv)
      clear hlo hhi hpr hqr hi hj d1 d2 d3 d4 d5
      go_wp2_with fail
      go_loopw [13] (fun kv wr => ∃ s : Nat, s ≤ q ∧ kv = .int .i64 ((a + s : Nat) : Int) ∧ PR W0 wr g n (X ++ (B.take s ++ (x :: (B.drop s ++ Y))))) (fun kv _ => j - (intOf kv).toNat)
      case atStart => exact ⟨0, Nat.zero_le _, rfl, by simpa using HI.out.2.2.2.2⟩
      case round =>
        obtain ⟨s, hs, rfl, hpr⟩ := hrel
        have HS := Lib.hid (And.intro hs hpr)
        obtain ⟨d1, d2, d3, d4, d5⟩ := HD.out
        by_cases hsq : s < q
        · have hsB : s < B.length := by omega
          obtain ⟨y, hy⟩ : ∃ y, B[s] = y := ⟨_, rfl⟩
          have e1 : X ++ (B.take s ++ (x :: (B.drop s ++ Y))) = (X ++ B.take s) ++ x :: y :: (B.drop (s + 1) ++ Y) := by rw [← List.getElem_cons_drop hsB, hy]; simp
          have e2 : X ++ (B.take (s + 1) ++ (x :: (B.drop (s + 1) ++ Y))) = (X ++ B.take s) ++ y :: x :: (B.drop (s + 1) ++ Y) := by rw [← List.take_append_getElem hsB, hy]; simp
          obtain ⟨p, hp⟩ : ∃ p, a + s = p := ⟨_, rfl⟩
          have hlen : (X ++ B.take s).length = p := by simp; omega
          have hpr2 := hpr
          rw [e1] at hpr2
          have ex : ((X ++ B.take s) ++ x :: y :: (B.drop (s + 1) ++ Y))[p]? = some x := by rw [List.getElem?_append_right (by omega), show p - (X ++ B.take s).length = 0 by omega]; rfl
          have ey : ((X ++ B.take s) ++ x :: y :: (B.drop (s + 1) ++ Y))[p + 1]? = some y := by rw [List.getElem?_append_right (by omega), show p + 1 - (X ++ B.take s).length = 1 by omega]; rfl
          obtain ⟨k0, k1, rx⟩ := hpr2.at2 p _ ex
          obtain ⟨q0, q1, ry⟩ := hpr2.at2 (p + 1) _ ey
          have hpl : p + 1 < ((X ++ B.take s) ++ x :: y :: (B.drop (s + 1) ++ Y)).length := by rw [List.length_append]; simp; omega
          have HSET := Lib.hid (show PR W0 ((((wr.setCell ⟨g, p * 2, none⟩ y.1).setCell ⟨g, p * 2 + 1, none⟩ (.int .u64 (y.2.v : Nat))).setCell ⟨g, (p + 1) * 2, none⟩ x.1).setCell ⟨g, (p + 1) * 2 + 1, none⟩ (.int .u64 (x.2.v : Nat))) g n (X ++ (B.take (s + 1) ++ (x :: (B.drop (s + 1) ++ Y)))) from by
            have h9 := (hpr2.set (j := p) (by omega) y ry).set (j := p + 1) (by rw [List.length_set]; exact hpl) x rx
            have h8 := swap_mid2 (X ++ B.take s) x y (B.drop (s + 1) ++ Y)
            rw [hlen] at h8
            rw [h8, ← e2] at h9
            exact h9)
          have hth := fun r => hpr.thaw r
          have hgl := hpr.lt
          obtain ⟨ux, px, vx⟩ := x
          obtain ⟨uy, py, vy⟩ := y
          simp only at k0 k1 q0 q1 rx ry
          have hp1 : (p : Int) < (j : Int) := by have := HJ.out; omega
          have hp2 : (p : Int) < (m : Int) := by omega
          have hp3 : (0 : Int) ≤ (p : Int) := by omega
          have hp4 : (p : Int) + 1 < (m : Int) := by omega
          have hp5 : (0 : Int) ≤ (p : Int) + 1 := by omega
          have hp6 : p + 1 < m := by omega
          have hp7 : p < m := by omega
          have HPN := Lib.hid (show s + 1 ≤ q ∧ p + 1 = a + (s + 1) ∧ j - (((p + 1 : Nat) : Int)).toNat < j - ((p : Nat) : Int).toNat from by have := HJ.out; omega)
          have HW4 := Lib.hid (show wrap64 ((p : Int) + 1) = ((p + 1 : Nat) : Int) from wrap_succ (by omega))
          obtain ⟨Ax, cx, rfl, _⟩ := RdU.point rx
          obtain ⟨Ay, cy, rfl, _⟩ := RdU.point ry
          rw [hp]
          have hw3 := HW3.out
          have hw4 := HW4.out
          clear hpr hpr2 hy e1 e2 ex ey rx ry hp hlen hpl hs d1 d2 d3 d4 d5 hsq
          go_wp2_with fail
          go_region
          go_wp2_with fail
          refine ⟨⟨s + 1, HPN.out.1, by rw [hw4, HPN.out.2.1], HSET.out.step (by repeat (first | exact Below.refl _ _ | (refine Below.drew ?_) | (refine below_drewN' ?_ _)))⟩, ?_⟩
          rw [intOf_of' hw4, intOf_nat]
          exact HPN.out.2.2
        · obtain rfl : s = q := by omega
          have e : a + s = j := HJ.out
          have hp1 : ¬ (j : Int) < (j : Int) := by omega
          have hw3 := HW3.out
          rw [e]
          clear hpr hs d1 d2 d3 d4 d5 e
          go_wp2_with fail
          go_end0
          exact HF.out _ HS.out.2
end Go.Proofs.YtdkomhmciihkiaaGreat
/-! SrtH -/
namespace Go.Proofs.YtdkomhmciihkiaaGreat
open Go.RowKit
set_option linter.unusedVariables false
set_option linter.unusedSimpArgs false
set_option maxRecDepth 100000

set_option maxHeartbeats 8000000 in
theorem sym_right (W0 w : World) (g n a mm b m c k : Nat) (X A Y : List Pe) (x : Pe) (ha : X.length = a) (hmm : a + A.length = mm) (hb : mm + 1 = b) (hm : b + Y.length = m) (hmx : m ≤ 1000) (hA2 : 2 ≤ A.length) (k1 : 1 ≤ k) (k16 : k ≤ 16) (h : PR W0 w g n (X ++ (A ++ (x :: Y))))
    (hk : ∀ x' ∈ X ++ (A ++ (x :: Y)), x'.2.p.length = k ∧ ∀ q ∈ x'.2.p, q < 2 ^ 64) (hA : Srt A) :
    Calls Tryz.prog 256 #[.slice (some ⟨g, 0, none⟩) m c, .int .i64 (a : Nat), .int .i64 (mm : Nat), .int .i64 (b : Nat), .func (.func 205) #[] #[]] w fun e w' => MrgR W0 g n X (A ++ [x]) Y e w' := by
  have hent := enters_lit' Tryz.func205 (by kernel_rfl) (by kernel_rfl)
  have HP0 := Lib.hid h
  have HD := Lib.hid (And.intro ha (And.intro hmm (And.intro hb (And.intro hm hmx))))
  have HK := Lib.hid (And.intro hk (And.intro k1 (And.intro k16 hA)))
  obtain ⟨la, hla⟩ : ∃ la, A.length = la := ⟨_, rfl⟩
  have hl1 : ¬ (la : Int) = 1 := by omega
  have hl2 : ((la : Int) == 1) = false := by simpa using hl1
  have HW1 := Lib.hid (show wrap64 ((mm : Int) - (a : Int)) = (la : Int) from wrap_sub (by omega) (by omega))
  have HW2 := Lib.hid (show wrap64 ((b : Int) - (mm : Int)) = ((1 : Nat) : Int) from wrap_sub (by omega) (by omega))
  have hw1 := HW1.out
  have hw2 : wrap64 ((b : Int) - (mm : Int)) = 1 := HW2.out
  clear ha hmm hb hm hmx k1 k16 h hk hA hA2 hla
  go_enter Tryz.func256, Tryz.ntmps256
  go_wp2_with fail
  clear hw1 hw2
  go_loopw [14, 15, 16] (fun iv jv _ wr => ∃ q r : Nat, iv = .int .i64 ((a + q : Nat) : Int) ∧ jv = .int .i64 ((a + r : Nat) : Int) ∧ q ≤ r ∧ r ≤ A.length ∧ (∀ t (h : t < A.length), t < q → ek A[t] ≤ ek x) ∧ (∀ t (h : t < A.length), r ≤ t → ek x < ek A[t]) ∧ PR W0 wr g n (X ++ (A ++ (x :: Y)))) (fun iv jv _ _ => (intOf jv).toNat - (intOf iv).toNat)
  case atStart => exact ⟨0, A.length, rfl, by rw [HD.out.2.1], Nat.zero_le _, Nat.le_refl _, (fun t _ h => by omega), (fun t h h' => by omega), HP0.out⟩
  case round =>
    obtain ⟨q, r, rfl, rfl, hqr, hrl, hlo, hhi, hpr⟩ := hrel
    have HI := Lib.hid (And.intro hqr (And.intro hrl (And.intro hlo (And.intro hhi hpr))))
    by_cases hlt : q < r
    · obtain ⟨d1, d2, d3, d4, d5⟩ := HD.out
      obtain ⟨i, hi⟩ : ∃ i, a + q = i := ⟨_, rfl⟩
      obtain ⟨j, hj⟩ : ∃ j, a + r = j := ⟨_, rfl⟩
      obtain ⟨h, hh⟩ : ∃ h, (i + j) / 2 = h := ⟨_, rfl⟩
      obtain ⟨t, ht⟩ : ∃ t, h = a + t := ⟨h - a, by omega⟩
      have htB : t < A.length := by omega
      have hqt : q ≤ t ∧ t < r := by omega
      have ey : (X ++ (A ++ (x :: Y)))[h]? = some A[t] := by
        rw [List.getElem?_append_right (by omega), show h - X.length = t by omega, List.getElem?_append_left htB, List.getElem?_eq_getElem htB]
      have ex : (X ++ (A ++ (x :: Y)))[mm]? = some x := by
        rw [List.getElem?_append_right (by omega), List.getElem?_append_right (by omega), show mm - X.length - A.length = 0 by omega]; rfl
      obtain ⟨k0, k1, ry⟩ := hpr.at2 h _ ey
      obtain ⟨q0, q1, rx⟩ := hpr.at2 mm _ ex
      have HOR := Lib.hid (ord_row hpr (List.mem_of_getElem? ex) (List.mem_of_getElem? ey) HK.out.2.1 HK.out.2.2.1 HK.out.1)
      have HLT := Lib.hid (show ¬ ek x < ek A[t] → ∀ s (h : s < A.length), s < t + 1 → ek A[s] ≤ ek x from fun h0 s hs h' => by
        by_cases e : s = t
        · subst e; omega
        · have := List.pairwise_iff_getElem.1 HK.out.2.2.2 s t hs htB (by omega); omega)
      have HGE := Lib.hid (show ek x < ek A[t] → ∀ s (h : s < A.length), t ≤ s → ek x < ek A[s] from fun h0 s hs h' => by
        by_cases e : s = t
        · subst e; omega
        · have := List.pairwise_iff_getElem.1 HK.out.2.2.2 t s htB hs (by omega); omega)
      have hth := fun r => hpr.thaw r
      have hgl := hpr.lt
      generalize A[t] = y at *
      obtain ⟨ux, px, vx⟩ := x
      obtain ⟨uy, py, vy⟩ := y
      simp only at k0 k1 q0 q1 rx ry HOR
      obtain ⟨z, hz⟩ : ∃ z, Zb.cmp px py = z := ⟨_, rfl⟩
      rw [hz] at HOR
      have HZ := Lib.hid (show z < 0 ↔ pkey px < pkey py from hz ▸ cmp_neg px py)
      have hij : (i : Int) < (j : Int) := by omega
      have hh1 : (h : Int) < (m : Int) := by omega
      have hh2 : (0 : Int) ≤ (h : Int) := by omega
      have ha1 : (mm : Int) < (m : Int) := by omega
      have ha2 : (0 : Int) ≤ (mm : Int) := by omega
      have HN := Lib.hid (And.intro hi (And.intro hj (And.intro ht (And.intro hqt htB))))
      have HW2 := Lib.hid (show wrap64 ((h : Int) + 1) = ((h + 1 : Nat) : Int) from wrap_succ (by omega))
      have HMW := Lib.hid (mid_eq hh (by omega))
      rw [hi, hj]
      obtain ⟨Ax, cx, rfl, _⟩ := RdU.point rx
      obtain ⟨Ay, cy, rfl, _⟩ := RdU.point ry
      clear hlo hhi hpr hqr hrl hz ey ex rx ry hi hj hh ht htB hqt hlt d1 d2 d3 d4 d5
      go_wp2_with fail
      rw [HMW.out]
      refine wp_region_vals 10 [fun z9 _ => z9 = .func (.func 205) #[] #[],
        fun z9 _ => z9 = .slice (some ⟨g, 0, none⟩) m c,
        fun z9 _ => z9 = .int .i64 (mm : Nat),
        fun z9 _ => z9 = .pointer (some ⟨g, mm * 2, none⟩),
        fun z9 _ => z9 = .agg #[.slice Ax px.length cx, .int .u64 (vx : Nat)],
        fun z9 _ => z9 = .slice (some ⟨g, 0, none⟩) m c,
        fun z9 _ => z9 = .int .i64 (h : Nat),
        fun z9 _ => z9 = .pointer (some ⟨g, h * 2, none⟩),
        fun z9 _ => z9 = .agg #[.slice Ay py.length cy, .int .u64 (vy : Nat)],
        fun z9 _ => z9 = .int .i64 z]
        (by kernel_rfl) (by kernel_rfl) (by kernel_rfl) (by kernel_rfl) ?_ ?_ ?_
      · intro V hV v w1 w2 h hb
        simp only [List.mem_cons, List.not_mem_nil, or_false] at hV
        rcases hV with rfl | rfl | rfl | rfl | rfl | rfl | rfl | rfl | rfl | rfl
        all_goals first | exact h | (exact h)
      · intro iq oq hiq hoq
        match iq, hiq with
        | 0, _ =>
        obtain rfl := Option.some.inj hoq
        intro a1 w1 K hk hK
        have e4 : a1.tmps.getD 4 undef = .func (.func 205) #[] #[] := hk.same 4 (by simp)
        simp [Region.wanted, Oper.wp, Act.eval, go_sem, e4, k0, k1, q0, q1, hh1, hh2, ha1, ha2, hgl, hent]
        exact hK _ _ (Below.refl _ _) rfl
        | 1, _ =>
        obtain rfl := Option.some.inj hoq
        intro a1 w1 K hk hK
        have e0 : a1.tmps.getD 0 undef = .slice (some ⟨g, 0, none⟩) m c := hk.same 0 (by simp)
        simp [Region.wanted, Oper.wp, Act.eval, go_sem, e0, k0, k1, q0, q1, hh1, hh2, ha1, ha2, hgl, hent]
        exact hK _ _ (Below.refl _ _) rfl
        | 2, _ =>
        obtain rfl := Option.some.inj hoq
        intro a1 w1 K hk hK
        have e2 : a1.tmps.getD 2 undef = .int .i64 (mm : Nat) := hk.same 2 (by simp)
        simp [Region.wanted, Oper.wp, Act.eval, go_sem, e2, k0, k1, q0, q1, hh1, hh2, ha1, ha2, hgl, hent]
        exact hK _ _ (Below.refl _ _) rfl
        | 3, _ =>
        obtain rfl := Option.some.inj hoq
        intro a1 w1 K hk hK
        have d93 : a1.tmps.getD 93 undef = .slice (some ⟨g, 0, none⟩) m c := hk.deps ⟨1, .data⟩ (by simp) rfl _ _ rfl rfl
        have d94 : a1.tmps.getD 94 undef = .int .i64 (mm : Nat) := hk.deps ⟨2, .data⟩ (by simp) rfl _ _ rfl rfl
        simp [Region.wanted, Oper.wp, Act.eval, go_sem, d93, d94, k0, k1, q0, q1, hh1, hh2, ha1, ha2, hgl, hent]
        exact hK _ _ (Below.refl _ _) rfl
        | 4, _ =>
        obtain rfl := Option.some.inj hoq
        intro a1 w1 K hk hK
        have d95 : a1.tmps.getD 95 undef = .pointer (some ⟨g, mm * 2, none⟩) := hk.deps ⟨3, .data⟩ (by simp) rfl _ _ rfl rfl
        have c0 : w1.cell? ⟨g, mm * 2, none⟩ = some (.slice Ax px.length cx) := Below.keeps hk.ext _ _ (by simp [go_sem, k0, k1, q0, q1, hh1, hh2, ha1, ha2, hgl, hent])
        have c1 : w1.cell? ⟨g, mm * 2 + 1, none⟩ = some (.int .u64 (vx : Nat)) := Below.keeps hk.ext _ _ (by simp [go_sem, k0, k1, q0, q1, hh1, hh2, ha1, ha2, hgl, hent])
        have c2 : w1.cell? ⟨g, h * 2, none⟩ = some (.slice Ay py.length cy) := Below.keeps hk.ext _ _ (by simp [go_sem, k0, k1, q0, q1, hh1, hh2, ha1, ha2, hgl, hent])
        have c3 : w1.cell? ⟨g, h * 2 + 1, none⟩ = some (.int .u64 (vy : Nat)) := Below.keeps hk.ext _ _ (by simp [go_sem, k0, k1, q0, q1, hh1, hh2, ha1, ha2, hgl, hent])
        simp [Region.wanted, Oper.wp, Act.eval, go_sem, d95, c0, c1, c2, c3, k0, k1, q0, q1, hh1, hh2, ha1, ha2, hgl, hent]
        exact hK _ _ (Below.refl _ _) rfl
        | 5, _ =>
        obtain rfl := Option.some.inj hoq
        intro a1 w1 K hk hK
        have e0 : a1.tmps.getD 0 undef = .slice (some ⟨g, 0, none⟩) m c := hk.same 0 (by simp)
        simp [Region.wanted, Oper.wp, Act.eval, go_sem, e0, k0, k1, q0, q1, hh1, hh2, ha1, ha2, hgl, hent]
        exact hK _ _ (Below.refl _ _) rfl
        | 6, _ =>
        obtain rfl := Option.some.inj hoq
        intro a1 w1 K hk hK
        have e16 : a1.tmps.getD 16 undef = .int .i64 (h : Nat) := hk.same 16 (by simp)
        simp [Region.wanted, Oper.wp, Act.eval, go_sem, e16, k0, k1, q0, q1, hh1, hh2, ha1, ha2, hgl, hent]
        exact hK _ _ (Below.refl _ _) rfl
        | 7, _ =>
        obtain rfl := Option.some.inj hoq
        intro a1 w1 K hk hK
        have d97 : a1.tmps.getD 97 undef = .slice (some ⟨g, 0, none⟩) m c := hk.deps ⟨5, .data⟩ (by simp) rfl _ _ rfl rfl
        have d98 : a1.tmps.getD 98 undef = .int .i64 (h : Nat) := hk.deps ⟨6, .data⟩ (by simp) rfl _ _ rfl rfl
        simp [Region.wanted, Oper.wp, Act.eval, go_sem, d97, d98, k0, k1, q0, q1, hh1, hh2, ha1, ha2, hgl, hent]
        exact hK _ _ (Below.refl _ _) rfl
        | 8, _ =>
        obtain rfl := Option.some.inj hoq
        intro a1 w1 K hk hK
        have d99 : a1.tmps.getD 99 undef = .pointer (some ⟨g, h * 2, none⟩) := hk.deps ⟨7, .data⟩ (by simp) rfl _ _ rfl rfl
        have c0 : w1.cell? ⟨g, mm * 2, none⟩ = some (.slice Ax px.length cx) := Below.keeps hk.ext _ _ (by simp [go_sem, k0, k1, q0, q1, hh1, hh2, ha1, ha2, hgl, hent])
        have c1 : w1.cell? ⟨g, mm * 2 + 1, none⟩ = some (.int .u64 (vx : Nat)) := Below.keeps hk.ext _ _ (by simp [go_sem, k0, k1, q0, q1, hh1, hh2, ha1, ha2, hgl, hent])
        have c2 : w1.cell? ⟨g, h * 2, none⟩ = some (.slice Ay py.length cy) := Below.keeps hk.ext _ _ (by simp [go_sem, k0, k1, q0, q1, hh1, hh2, ha1, ha2, hgl, hent])
        have c3 : w1.cell? ⟨g, h * 2 + 1, none⟩ = some (.int .u64 (vy : Nat)) := Below.keeps hk.ext _ _ (by simp [go_sem, k0, k1, q0, q1, hh1, hh2, ha1, ha2, hgl, hent])
        simp [Region.wanted, Oper.wp, Act.eval, go_sem, d99, c0, c1, c2, c3, k0, k1, q0, q1, hh1, hh2, ha1, ha2, hgl, hent]
        exact hK _ _ (Below.refl _ _) rfl
        | 9, _ =>
        obtain rfl := Option.some.inj hoq
        intro a1 w1 K hk hK
        have d92 : a1.tmps.getD 92 undef = .func (.func 205) #[] #[] := hk.deps ⟨0, .data⟩ (by simp) rfl _ _ rfl rfl
        have d96 : a1.tmps.getD 96 undef = .agg #[.slice Ax px.length cx, .int .u64 (vx : Nat)] := hk.deps ⟨4, .data⟩ (by simp) rfl _ _ rfl rfl
        have d100 : a1.tmps.getD 100 undef = .agg #[.slice Ay py.length cy, .int .u64 (vy : Nat)] := hk.deps ⟨8, .data⟩ (by simp) rfl _ _ rfl rfl
        simp [Region.wanted, Oper.wp, Act.eval, go_sem, d92, d96, d100, k0, k1, q0, q1, hh1, hh2, ha1, ha2, hgl, hent]
        refine (HOR.out _ (below_trans (by repeat (first | exact Below.refl _ _ | (refine Below.drew ?_) | (refine below_drewN' ?_ _) | (refine below_alloc' ?_ _) | (refine Below.setCell ?_ (by first | exact Nat.le_refl _ | (simp; done) | (simp; omega)) _))) hk.ext)).mono ?_
        rintro e w9 ⟨rfl, hb9⟩
        exact hK _ _ hb9 rfl
      · intro vs w3 hl hb3 hv
        match vs, hl with
        | [v0, v1, v2, v3, v4, v5, v6, v7, v8, v9], _ =>
        obtain rfl : v0 = .func (.func 205) #[] #[] := hv 0 (by omega)
        obtain rfl : v1 = .slice (some ⟨g, 0, none⟩) m c := hv 1 (by omega)
        obtain rfl : v2 = .int .i64 (mm : Nat) := hv 2 (by omega)
        obtain rfl : v3 = .pointer (some ⟨g, mm * 2, none⟩) := hv 3 (by omega)
        obtain rfl : v4 = .agg #[.slice Ax px.length cx, .int .u64 (vx : Nat)] := hv 4 (by omega)
        obtain rfl : v5 = .slice (some ⟨g, 0, none⟩) m c := hv 5 (by omega)
        obtain rfl : v6 = .int .i64 (h : Nat) := hv 6 (by omega)
        obtain rfl : v7 = .pointer (some ⟨g, h * 2, none⟩) := hv 7 (by omega)
        obtain rfl : v8 = .agg #[.slice Ay py.length cy, .int .u64 (vy : Nat)] := hv 8 (by omega)
        obtain rfl : v9 = .int .i64 z := hv 9 (by omega)
        clear hv
        simp only [putAll, List.take_succ_cons, List.take_zero, List.drop_succ_cons, List.drop_zero, Act.put, List.setIfInBounds_toArray, List.set_cons_succ, List.set_cons_zero]
        have HP3 := Lib.hid (HI.out.2.2.2.2.step (show Below wr.heap.size wr w3 from hb3))
        clear hb3 hth k0 k1 q0 q1 hgl
        by_cases hz0 : z < 0
        · have HL := Lib.hid (HGE.out (HZ.out.1 hz0))
          go_wp2_with fail
          go_roundw
          case rel =>
            obtain ⟨n1, n2, n3, n4, n5⟩ := HN.out
            exact ⟨q, t, by rw [n1], by rw [n3], by omega, by omega, HI.out.2.2.1, HL.out, HP3.out⟩
          case measure =>
            obtain ⟨n1, n2, n3, n4, n5⟩ := HN.out
            rw [intOf_nat, intOf_nat, intOf_nat]; omega
        · have HL := Lib.hid (HLT.out (fun h => hz0 (HZ.out.2 h)))
          go_wp2_with fail
          go_roundw
          case rel =>
            obtain ⟨n1, n2, n3, n4, n5⟩ := HN.out
            exact ⟨t + 1, r, by rw [HW2.out]; congr 2; omega, by rw [n2], by omega, HI.out.2.1, HL.out, HI.out.2.2.2.1, HP3.out⟩
          case measure =>
            obtain ⟨n1, n2, n3, n4, n5⟩ := HN.out
            rw [intOf_nat, intOf_of' HW2.out, intOf_nat]; omega
    · obtain rfl : q = r := by omega
      obtain ⟨d1, d2, d3, d4, d5⟩ := HD.out
      obtain ⟨i, hi⟩ : ∃ i, a + q = i := ⟨_, rfl⟩
      have hij : ¬ (i : Int) < (i : Int) := by omega
      have HJ := Lib.hid (And.intro hi hrl)
      rw [hi]
      have HF := Lib.hid (show ∀ w', PR W0 w' g n (X ++ (A.take q ++ (x :: (A.drop q ++ Y)))) → MrgR W0 g n X (A ++ [x]) Y (.returned (.tuple #[])) w' from fun w' hp => by
        have h1 : ∀ y ∈ A.take q, ek y ≤ ek x := fun y hy => by
          obtain ⟨i, hi, rfl⟩ := List.mem_iff_getElem.1 hy
          rw [List.length_take] at hi
          rw [List.getElem_take]
          exact hlo i (by omega) (by omega)
        have h2 : ∀ y ∈ A.drop q, ek x < ek y := fun y hy => by
          obtain ⟨i, hi, rfl⟩ := List.mem_iff_getElem.1 hy
          rw [List.length_drop] at hi
          rw [List.getElem_drop]
          exact hhi (q + i) (by omega) (by omega)
        have h3 := HK.out.2.2.2
        rw [← List.take_append_drop q A] at h3
        obtain ⟨s1, s2, s3⟩ := List.pairwise_append.1 h3
        refine ⟨A.take q ++ (x :: A.drop q), rfl, by simpa using hp, by simp; omega, ?_, ?_⟩
        · have e := Stb.swap (X := A.drop q) (Y := [x]) (fun u hu v hv => by obtain rfl := List.mem_singleton.1 hv; have := h2 u hu; omega)
          have e2 := (Stb.refl (A.take q)).append e
          rw [← List.append_assoc, List.take_append_drop] at e2
          simpa using e2
        · refine List.pairwise_append.2 ⟨s1, List.pairwise_cons.2 ⟨fun y hy => Nat.le_of_lt (h2 y hy), s2⟩, fun u hu v hv => ?_⟩
          rcases List.mem_cons.1 hv with rfl | hv
          · exact h1 u hu
          · exact s3 u hu v hv)
      clear hlo hhi hpr hqr hi d1 d2 d3 d4 d5
      go_wp2_with fail
      go_loopw [17] (fun kv wr => ∃ s : Nat, q ≤ s ∧ s ≤ A.length ∧ kv = .int .i64 ((a + s : Nat) : Int) ∧ PR W0 wr g n (X ++ (A.take s ++ (x :: (A.drop s ++ Y))))) (fun kv _ => (intOf kv).toNat)
      case atStart => exact ⟨A.length, HJ.out.2, Nat.le_refl _, by rw [HD.out.2.1], by simpa using HI.out.2.2.2.2⟩
      case round =>
        obtain ⟨s, hs, hsl, rfl, hpr⟩ := hrel
        have HS := Lib.hid (And.intro hs hpr)
        obtain ⟨d1, d2, d3, d4, d5⟩ := HD.out
        have hj1 := HJ.out.1
        by_cases hsq : q < s
        · obtain ⟨s', hs'⟩ : ∃ s', s = s' + 1 := ⟨s - 1, by omega⟩
          subst hs'
          have hsB : s' < A.length := by omega
          obtain ⟨y, hy⟩ : ∃ y, A[s'] = y := ⟨_, rfl⟩
          have e1 : X ++ (A.take (s' + 1) ++ (x :: (A.drop (s' + 1) ++ Y))) = (X ++ A.take s') ++ y :: x :: (A.drop (s' + 1) ++ Y) := by rw [← List.take_append_getElem hsB, hy]; simp
          have e2 : X ++ (A.take s' ++ (x :: (A.drop s' ++ Y))) = (X ++ A.take s') ++ x :: y :: (A.drop (s' + 1) ++ Y) := by rw [← List.getElem_cons_drop hsB, hy]; simp
          obtain ⟨p, hp⟩ : ∃ p, a + s' = p := ⟨_, rfl⟩
          obtain ⟨e, he⟩ : ∃ e, a + (s' + 1) = e := ⟨_, rfl⟩
          have hlen : (X ++ A.take s').length = p := by simp; omega
          have hpr2 := hpr
          rw [e1] at hpr2
          have ey : ((X ++ A.take s') ++ y :: x :: (A.drop (s' + 1) ++ Y))[p]? = some y := by rw [List.getElem?_append_right (by omega), show p - (X ++ A.take s').length = 0 by omega]; rfl
          have ex : ((X ++ A.take s') ++ y :: x :: (A.drop (s' + 1) ++ Y))[e]? = some x := by rw [List.getElem?_append_right (by omega), show e - (X ++ A.take s').length = 1 by omega]; rfl
          obtain ⟨k0, k1, ry⟩ := hpr2.at2 p _ ey
          obtain ⟨q0, q1, rx⟩ := hpr2.at2 e _ ex
          have hpl : p + 1 < ((X ++ A.take s') ++ y :: x :: (A.drop (s' + 1) ++ Y)).length := by rw [List.length_append]; simp; omega
          have hep : e = p + 1 := by omega
          have HSET := Lib.hid (show PR W0 ((((wr.setCell ⟨g, e * 2, none⟩ y.1).setCell ⟨g, e * 2 + 1, none⟩ (.int .u64 (y.2.v : Nat))).setCell ⟨g, p * 2, none⟩ x.1).setCell ⟨g, p * 2 + 1, none⟩ (.int .u64 (x.2.v : Nat))) g n (X ++ (A.take s' ++ (x :: (A.drop s' ++ Y)))) from by
            have h9 := (hpr2.set (j := e) (by omega) y ry).set (j := p) (by rw [List.length_set]; omega) x rx
            have h8 := swap_mid (X ++ A.take s') y x (A.drop (s' + 1) ++ Y)
            rw [hlen, ← hep] at h8
            rw [h8, ← e2] at h9
            exact h9)
          have hth := fun r => hpr.thaw r
          have hgl := hpr.lt
          obtain ⟨ux, px, vx⟩ := x
          obtain ⟨uy, py, vy⟩ := y
          simp only at k0 k1 q0 q1 rx ry
          have hp1 : (e : Int) > (i : Int) := by omega
          have hp2 : (p : Int) < (m : Int) := by omega
          have hp3 : (0 : Int) ≤ (p : Int) := by omega
          have hp4 : (e : Int) < (m : Int) := by omega
          have hp5 : (0 : Int) ≤ (e : Int) := by omega
          have hp8 : ¬ e = p := by omega
          have HPN := Lib.hid (show q ≤ s' ∧ s' ≤ A.length ∧ p = a + s' ∧ ((p : Nat) : Int).toNat < ((e : Nat) : Int).toNat from by omega)
          have HW4 := Lib.hid (show wrap64 ((e : Int) - 1) = (p : Int) from by have := wrap_sub (a := e) (i := 1) (p := p) (by omega) (by omega); exact this)
          obtain ⟨Ax, cx, rfl, _⟩ := RdU.point rx
          obtain ⟨Ay, cy, rfl, _⟩ := RdU.point ry
          rw [he]
          have hw4 := HW4.out
          clear hpr hpr2 hy e1 e2 ex ey rx ry hp he hep hlen hpl hs d1 d2 d3 d4 d5 hsq hj1 hsl hsB
          go_wp2_with fail
          go_region
          go_wp2_with fail
          refine ⟨⟨s', HPN.out.1, HPN.out.2.1, by rw [hw4, HPN.out.2.2.1], HSET.out.step (by repeat (first | exact Below.refl _ _ | (refine Below.drew ?_) | (refine below_drewN' ?_ _)))⟩, ?_⟩
          rw [intOf_of' hw4, intOf_nat]
          exact HPN.out.2.2.2
        · obtain rfl : s = q := by omega
          have hp1 : ¬ (i : Int) > (i : Int) := by omega
          rw [hj1]
          clear hpr hs d1 d2 d3 d4 d5 hj1
          go_wp2_with fail
          go_end0
          exact HF.out _ HS.out.2
end Go.Proofs.YtdkomhmciihkiaaGreat
/-! SrtI -/
namespace Go.Proofs.YtdkomhmciihkiaaGreat
open Go.RowKit
set_option linter.unusedVariables false
set_option linter.unusedSimpArgs false
set_option maxRecDepth 100000

/-- the key at a place -/
def kAt (l : List Pe) (i : Nat) : Nat := ((l[i]?).map ek).getD 0
theorem kAt_eq {l : List Pe} {i : Nat} (h : i < l.length) : kAt l i = ek l[i] := by unfold kAt; rw [List.getElem?_eq_getElem h]; rfl
theorem Srt.kAt {l : List Pe} (h : Srt l) {i j : Nat} (hij : i ≤ j) (hj : j < l.length) : Go.Proofs.YtdkomhmciihkiaaGreat.kAt l i ≤ Go.Proofs.YtdkomhmciihkiaaGreat.kAt l j := by
  rw [kAt_eq (by omega), kAt_eq hj]
  by_cases e : i = j
  · subst e; exact Nat.le_refl _
  · exact List.pairwise_iff_getElem.1 h i j (by omega) hj (by omega)
/-- where the runs are cut: the places -/
structure CutB (a mm b mid lo hi : Nat) : Prop where
  md : mid = (a + b) / 2
  am : a < mm
  mb : mm < b
  la : a ≤ lo
  lh : lo ≤ hi
  hm : hi ≤ mm
  hd : hi ≤ mid
  lb : mid + mm ≤ lo + b
  e1 : lo = a ∨ lo + b = mid + mm
  e2 : hi = mid ∨ hi = mm
theorem CutB.of {a mm b mid : Nat} (md : mid = (a + b) / 2) (am : a < mm) (mb : mm < b) : CutB a mm b mid (if mm > mid then mid + mm - b else a) (if mm > mid then mid else mm) := by
  by_cases h : mm > mid
  · rw [if_pos h, if_pos h]
    exact ⟨md, am, mb, by omega, by omega, by omega, by omega, by omega, by omega, by omega⟩
  · rw [if_neg h, if_neg h]
    exact ⟨md, am, mb, by omega, by omega, by omega, by omega, by omega, by omega, by omega⟩
/-- what is known of the search -/
structure CutI (A B : List Pe) (a mm b mid lo hi st r : Nat) : Prop where
  l1 : lo ≤ st
  l2 : st ≤ r
  l3 : r ≤ hi
  low : ∀ c, lo ≤ c → c < st → kAt A (c - a) ≤ kAt B (mid + mm - 1 - c - mm)
  high : ∀ c, r ≤ c → c < hi → kAt B (mid + mm - 1 - c - mm) < kAt A (c - a)
theorem CutI.up {A B : List Pe} {a mm b mid lo hi st r c : Nat} (h : CutI A B a mm b mid lo hi st r) (hb : CutB a mm b mid lo hi) (hA : Srt A) (hB : Srt B) (la : a + A.length = mm) (lb : mm + B.length = b) (h1 : st ≤ c) (h2 : c < r)
    (hc : ¬ kAt B (mid + mm - 1 - c - mm) < kAt A (c - a)) : CutI A B a mm b mid lo hi (c + 1) r := by
  obtain ⟨x1, x2, x3, x4, x5, x6, x7, x8, _, _⟩ := hb
  obtain ⟨y1, y2, y3, y4, y5⟩ := h
  refine ⟨by omega, by omega, y3, fun d d1 d2 => ?_, y5⟩
  have z1 := hA.kAt (i := d - a) (j := c - a) (by omega) (by omega)
  have z2 := hB.kAt (i := mid + mm - 1 - c - mm) (j := mid + mm - 1 - d - mm) (by omega) (by omega)
  omega
theorem CutI.down {A B : List Pe} {a mm b mid lo hi st r c : Nat} (h : CutI A B a mm b mid lo hi st r) (hb : CutB a mm b mid lo hi) (hA : Srt A) (hB : Srt B) (la : a + A.length = mm) (lb : mm + B.length = b) (h1 : st ≤ c) (h2 : c < r)
    (hc : kAt B (mid + mm - 1 - c - mm) < kAt A (c - a)) : CutI A B a mm b mid lo hi st c := by
  obtain ⟨x1, x2, x3, x4, x5, x6, x7, x8, _, _⟩ := hb
  obtain ⟨y1, y2, y3, y4, y5⟩ := h
  refine ⟨y1, by omega, by omega, y4, fun d d1 d2 => ?_⟩
  have z1 := hA.kAt (i := c - a) (j := d - a) (by omega) (by omega)
  have z2 := hB.kAt (i := mid + mm - 1 - d - mm) (j := mid + mm - 1 - c - mm) (by omega) (by omega)
  omega
/-- the runs, cut -/
structure CutR (A B A1 A2 B1 B2 : List Pe) (a mm b mid st : Nat) : Prop where
  ea : A = A1 ++ A2
  eb : B = B1 ++ B2
  l1 : a + A1.length = st
  l2 : st + A2.length = mm
  l3 : st + B1.length = mid
  l4 : mid + A2.length + B2.length = b
  lt : ∀ x ∈ B1, ∀ y ∈ A2, ek x < ek y
  le : ∀ x ∈ A1, ∀ y ∈ B2, ek x ≤ ek y
theorem mem_kAt {l : List Pe} {x : Pe} (h : x ∈ l) : ∃ i, i < l.length ∧ ek x = kAt l i := by
  obtain ⟨i, hi, rfl⟩ := List.mem_iff_getElem.1 h
  exact ⟨i, hi, (kAt_eq hi).symm⟩
theorem kAt_left {l m : List Pe} {i : Nat} (h : i < l.length) : kAt (l ++ m) i = kAt l i := by unfold kAt; rw [List.getElem?_append_left h]
theorem kAt_right {l m : List Pe} {i : Nat} : kAt (l ++ m) (l.length + i) = kAt m i := by unfold kAt; rw [List.getElem?_append_right (by omega), Nat.add_sub_cancel_left]
theorem CutI.cut {A B : List Pe} {a mm b mid lo hi st : Nat} (h : CutI A B a mm b mid lo hi st st) (hb : CutB a mm b mid lo hi) (hA : Srt A) (hB : Srt B) (la : a + A.length = mm) (lb : mm + B.length = b) :
    CutR A B (A.take (st - a)) (A.drop (st - a)) (B.take (mid - st)) (B.drop (mid - st)) a mm b mid st := by
  obtain ⟨x1, x2, x3, x4, x5, x6, x7, x8, x9, x10⟩ := hb
  obtain ⟨y1, y2, y3, y4, y5⟩ := h
  have q1 : (A.take (st - a)).length = st - a := by rw [List.length_take]; omega
  have q2 : (B.take (mid - st)).length = mid - st := by rw [List.length_take]; omega
  have eA : A = A.take (st - a) ++ A.drop (st - a) := (List.take_append_drop _ _).symm
  have eB : B = B.take (mid - st) ++ B.drop (mid - st) := (List.take_append_drop _ _).symm
  refine ⟨eA, eB, by omega, by rw [List.length_drop]; omega, by omega, by rw [List.length_drop, List.length_drop]; omega, fun x hx y hy => ?_, fun x hx y hy => ?_⟩
  · obtain ⟨i, hi, ei⟩ := mem_kAt hx
    obtain ⟨j, hj, ej⟩ := mem_kAt hy
    have e1 := kAt_left (m := B.drop (mid - st)) hi
    have e2 := kAt_right (l := A.take (st - a)) (m := A.drop (st - a)) (i := j)
    rw [← eB] at e1
    rw [← eA, q1] at e2
    rw [ei, ej, ← e1, ← e2]
    rw [q2] at hi
    rw [List.length_drop] at hj
    have z0 := y5 st (Nat.le_refl _) (by omega)
    have z1 := hA.kAt (i := st - a) (j := st - a + j) (by omega) (by omega)
    have z2 := hB.kAt (i := i) (j := mid + mm - 1 - st - mm) (by omega) (by omega)
    omega
  · obtain ⟨i, hi, ei⟩ := mem_kAt hx
    obtain ⟨j, hj, ej⟩ := mem_kAt hy
    have e1 := kAt_left (m := A.drop (st - a)) hi
    have e2 := kAt_right (l := B.take (mid - st)) (m := B.drop (mid - st)) (i := j)
    rw [← eA] at e1
    rw [← eB, q2] at e2
    rw [ei, ej, ← e1, ← e2]
    rw [q1] at hi
    rw [List.length_drop] at hj
    have z0 := y4 (st - 1) (by omega) (by omega)
    have z1 := hA.kAt (i := i) (j := st - 1 - a) (by omega) (by omega)
    have z2 := hB.kAt (i := mid + mm - 1 - (st - 1) - mm) (j := mid - st + j) (by omega) (by omega)
    omega
end Go.Proofs.YtdkomhmciihkiaaGreat
/-! SrtJ -/
namespace Go.Proofs.YtdkomhmciihkiaaGreat
open Go.RowKit
set_option linter.unusedVariables false
set_option linter.unusedSimpArgs false
set_option maxRecDepth 100000

/-- one half is done -/
structure Half (W0 w : World) (g n : Nat) (X L M Y : List Pe) : Prop where
  pr : PR W0 w g n (X ++ (M ++ Y))
  len : M.length = L.length
  stb : Stb L M
  srt : Srt M
theorem wrapi_sub {a i p : Nat} (h : p + i = a) (hb : a ≤ 100000) : IntKind.i64.wrap ((a : Int) - (i : Int)) = (p : Int) := by rw [IntKind.wrap_i64]; omega
set_option maxHeartbeats 16000000 in
theorem sym_gen (W0 w : World) (g n a mm b m c k : Nat) (X A B Y : List Pe) (ha : X.length = a) (hmm : a + A.length = mm) (hb : mm + B.length = b) (hm : b + Y.length = m) (hmx : m ≤ 1000) (hA2 : 2 ≤ A.length) (hB2 : 2 ≤ B.length) (k1 : 1 ≤ k) (k16 : k ≤ 16)
    (h : PR W0 w g n (X ++ (A ++ (B ++ Y)))) (hk : ∀ x' ∈ X ++ (A ++ (B ++ Y)), x'.2.p.length = k ∧ ∀ q ∈ x'.2.p, q < 2 ^ 64) (hA : Srt A) (hB : Srt B)
    (ih : ∀ (w' : World) (a' mm' b' : Nat) (X' A' B' Y' : List Pe), A'.length + B'.length < A.length + B.length → X'.length = a' → a' + A'.length = mm' → mm' + B'.length = b' → b' + Y'.length = m → A' ≠ [] → B' ≠ [] → PR W0 w' g n (X' ++ (A' ++ (B' ++ Y'))) →
      (∀ x' ∈ X' ++ (A' ++ (B' ++ Y')), x'.2.p.length = k ∧ ∀ q ∈ x'.2.p, q < 2 ^ 64) → Srt A' → Srt B' → Calls Tryz.prog 256 #[.slice (some ⟨g, 0, none⟩) m c, .int .i64 (a' : Nat), .int .i64 (mm' : Nat), .int .i64 (b' : Nat), .func (.func 205) #[] #[]] w' fun e w'' => MrgR W0 g n X' (A' ++ B') Y' e w'') :
    Calls Tryz.prog 256 #[.slice (some ⟨g, 0, none⟩) m c, .int .i64 (a : Nat), .int .i64 (mm : Nat), .int .i64 (b : Nat), .func (.func 205) #[] #[]] w fun e w' => MrgR W0 g n X (A ++ B) Y e w' := by
  have hent := enters_lit' Tryz.func205 (by kernel_rfl) (by kernel_rfl)
  have HP00 := Lib.hid h
  have HD := Lib.hid (And.intro ha (And.intro hmm (And.intro hb (And.intro hm hmx))))
  have HK := Lib.hid (And.intro hk (And.intro k1 (And.intro k16 (And.intro hA hB))))
  have HIH := Lib.hid ih
  obtain ⟨la, hla⟩ : ∃ la, A.length = la := ⟨_, rfl⟩
  obtain ⟨lb, hlb⟩ : ∃ lb, B.length = lb := ⟨_, rfl⟩
  have hl1 : ¬ (la : Int) = 1 := by omega
  have hl2 : ((la : Int) == 1) = false := by simpa using hl1
  have hl3 : ¬ (lb : Int) = 1 := by omega
  have hl4 : ((lb : Int) == 1) = false := by simpa using hl3
  obtain ⟨mid, hmid⟩ : ∃ mid, mid = (a + b) / 2 := ⟨_, rfl⟩
  obtain ⟨N, hN⟩ : ∃ N, N = mid + mm := ⟨_, rfl⟩
  have hcb := CutB.of (mm := mm) hmid (by omega) (by omega)
  obtain ⟨lo, hlo⟩ : ∃ lo, (if mm > mid then mid + mm - b else a) = lo := ⟨_, rfl⟩
  obtain ⟨hi, hhi⟩ : ∃ hi, (if mm > mid then mid else mm) = hi := ⟨_, rfl⟩
  rw [hlo, hhi] at hcb
  have HCB := Lib.hid hcb
  have hmain : (mm > mid ∧ lo = N - b ∧ hi = mid) ∨ (¬ mm > mid ∧ lo = a ∧ hi = mm) := by
    by_cases h9 : mm > mid
    · rw [if_pos h9] at hlo hhi; exact .inl ⟨h9, by omega, by omega⟩
    · rw [if_neg h9] at hlo hhi; exact .inr ⟨h9, by omega, by omega⟩
  have HNE := Lib.hid hN
  obtain ⟨p, hp⟩ : ∃ p, p + 1 = N := ⟨N - 1, by have := hcb.am; omega⟩
  have HPN := Lib.hid hp
  have HW1 := Lib.hid (show wrap64 ((mm : Int) - (a : Int)) = (la : Int) from wrap_sub (by omega) (by omega))
  have HW2 := Lib.hid (show wrap64 ((b : Int) - (mm : Int)) = (lb : Int) from wrap_sub (by omega) (by omega))
  have HMD := Lib.hid (mid_eq hmid.symm (by omega))
  have HNN := Lib.hid (show wrap64 ((mid : Int) + (mm : Int)) = (N : Int) from wrap_add (by omega) (by omega))
  have HP := Lib.hid (show wrap64 ((N : Int) - 1) = (p : Int) from by have := wrap_sub (a := N) (i := 1) (p := p) (by omega) (by omega); exact this)
  have HNB := Lib.hid (show (mm : Int) > (mid : Int) → wrap64 ((N : Int) - (b : Int)) = (lo : Int) from fun h => wrap_sub (by have := hcb.lb; rcases hmain with ⟨h1, h2, h3⟩ | ⟨h1, h2, h3⟩ <;> omega) (by omega))
  have H0 := Lib.hid (show CutI A B a mm b mid lo hi lo hi from ⟨Nat.le_refl _, hcb.lh, Nat.le_refl _, fun c h1 h2 => by omega, fun c h1 h2 => by omega⟩)
  have hbr : ((mm : Int) > (mid : Int) ∧ lo = N - b ∧ hi = mid) ∨ (¬ (mm : Int) > (mid : Int) ∧ lo = a ∧ hi = mm) := by omega
  clear hp ha hmm hb hm hmx k1 k16 h hk hA hB hA2 hB2 hla hlb ih hmid hN hcb hlo hhi hmain
  have hw1 := HW1.out
  have hw2 := HW2.out
  have hw3 := HMD.out
  rcases hbr with ⟨hgt, hl0, hh0⟩ | ⟨hgt, hl0, hh0⟩
  all_goals
    have HLH := Lib.hid (And.intro hl0 hh0)
    clear hl0 hh0
    go_enter Tryz.func256, Tryz.ntmps256
    go_wp2_with fail
    clear hw1 hw2 hw3
    (try rw [HMD.out])
    (try rw [HNN.out])
    (try rw [HP.out])
    (try rw [HNB.out hgt])
    go_loopw [20, 21, 23] (fun sv rv _ wr => ∃ st r : Nat, sv = .int .i64 (st : Nat) ∧ rv = .int .i64 (r : Nat) ∧ CutI A B a mm b mid lo hi st r ∧ PR W0 wr g n (X ++ (A ++ (B ++ Y)))) (fun sv rv _ _ => (intOf rv).toNat - (intOf sv).toNat)
    case atStart => exact ⟨lo, hi, by first | rfl | rw [HLH.out.1], by first | rfl | rw [HLH.out.2], H0.out, HP00.out⟩
    case round =>
      obtain ⟨st, r, rfl, rfl, hI, hpr⟩ := hrel
      have HI := Lib.hid (And.intro hI hpr)
      by_cases hlt : st < r
      · obtain ⟨d1, d2, d3, d4, d5⟩ := HD.out
        have hcb := HCB.out
        have hNm := HNE.out
        have hpN := HPN.out
        obtain ⟨c9, hc9⟩ : ∃ c9, (st + r) / 2 = c9 := ⟨_, rfl⟩
        obtain ⟨i1, i2, i3, _, _⟩ := id hI
        obtain ⟨b1, b2, b3, b4, b5, b6, b7, b8, _, _⟩ := hcb
        obtain ⟨d, hd⟩ : ∃ d, c9 + d = p := ⟨p - c9, by omega⟩
        have hcA : c9 - a < A.length := by omega
        have hdB : d - mm < B.length := by omega
        have ey : (X ++ (A ++ (B ++ Y)))[d]? = some B[d - mm] := by
          rw [List.getElem?_append_right (by omega), List.getElem?_append_right (by omega), List.getElem?_append_left (by omega), show d - X.length - A.length = d - mm by omega, List.getElem?_eq_getElem hdB]
        have ex : (X ++ (A ++ (B ++ Y)))[c9]? = some A[c9 - a] := by
          rw [List.getElem?_append_right (by omega), List.getElem?_append_left (by omega), show c9 - X.length = c9 - a by omega, List.getElem?_eq_getElem hcA]
        obtain ⟨k0, k1, ry⟩ := hpr.at2 d _ ey
        obtain ⟨q0, q1, rx⟩ := hpr.at2 c9 _ ex
        have HOR := Lib.hid (ord_row hpr (List.mem_of_getElem? ey) (List.mem_of_getElem? ex) HK.out.2.1 HK.out.2.2.1 HK.out.1)
        have hdm : mid + mm - 1 - c9 - mm = d - mm := by omega
        have eB : kAt B (mid + mm - 1 - c9 - mm) = ek B[d - mm] := by rw [hdm]; exact kAt_eq hdB
        have eA : kAt A (c9 - a) = ek A[c9 - a] := kAt_eq hcA
        have HUP := Lib.hid (show ¬ ek B[d - mm] < ek A[c9 - a] → CutI A B a mm b mid lo hi (c9 + 1) r from fun h => hI.up HCB.out HK.out.2.2.2.1 HK.out.2.2.2.2 d2 d3 (by omega) (by omega) (by rw [eB, eA]; exact h))
        have HDN := Lib.hid (show ek B[d - mm] < ek A[c9 - a] → CutI A B a mm b mid lo hi st c9 from fun h => hI.down HCB.out HK.out.2.2.2.1 HK.out.2.2.2.2 d2 d3 (by omega) (by omega) (by rw [eB, eA]; exact h))
        have hth := fun r => hpr.thaw r
        have hgl := hpr.lt
        generalize A[c9 - a] = x at *
        generalize B[d - mm] = y at *
        obtain ⟨ux, px, vx⟩ := x
        obtain ⟨uy, py, vy⟩ := y
        simp only at k0 k1 q0 q1 rx ry HOR
        obtain ⟨z, hz⟩ : ∃ z, Zb.cmp py px = z := ⟨_, rfl⟩
        rw [hz] at HOR
        have HZ := Lib.hid (show z < 0 ↔ pkey py < pkey px from hz ▸ cmp_neg py px)
        have hij : (st : Int) < (r : Int) := by omega
        have hh1 : (d : Int) < (m : Int) := by omega
        have hh2 : (0 : Int) ≤ (d : Int) := by omega
        have ha1 : (c9 : Int) < (m : Int) := by omega
        have ha2 : (0 : Int) ≤ (c9 : Int) := by omega
        have HN := Lib.hid (show r - (c9 + 1) < r - st ∧ c9 - st < r - st from by omega)
        have HW2 := Lib.hid (show wrap64 ((c9 : Int) + 1) = ((c9 + 1 : Nat) : Int) from wrap_succ (by omega))
        have HDW := Lib.hid (show wrap64 ((p : Int) - (c9 : Int)) = (d : Int) from wrap_sub (by omega) (by omega))
        have HDW2 := Lib.hid (show IntKind.i64.wrap ((p : Int) - (c9 : Int)) = (d : Int) from wrapi_sub (by omega) (by omega))
        have HMW := Lib.hid (mid_eq hc9 (by omega))
        obtain ⟨Ax, cx, rfl, _⟩ := RdU.point rx
        obtain ⟨Ay, cy, rfl, _⟩ := RdU.point ry
        clear hI hpr hz ey ex rx ry hc9 hd hcA hdB hdm eB eA hlt d1 d2 d3 d4 d5 b1 b2 b3 b4 b5 b6 b7 b8 i1 i2 i3 hNm hpN
        go_wp2_with fail
        rw [HMW.out]
        have hdw := HDW.out
        have hdw2 := HDW2.out
        refine wp_region_vals 12 [fun z9 _ => z9 = .func (.func 205) #[] #[],
          fun z9 _ => z9 = .slice (some ⟨g, 0, none⟩) m c,
          fun z9 _ => z9 = .int .i64 (p : Nat),
          fun z9 _ => z9 = .int .i64 (c9 : Nat),
          fun z9 _ => z9 = .int .i64 (d : Nat),
          fun z9 _ => z9 = .pointer (some ⟨g, d * 2, none⟩),
          fun z9 _ => z9 = .agg #[.slice Ay py.length cy, .int .u64 (vy : Nat)],
          fun z9 _ => z9 = .slice (some ⟨g, 0, none⟩) m c,
          fun z9 _ => z9 = .int .i64 (c9 : Nat),
          fun z9 _ => z9 = .pointer (some ⟨g, c9 * 2, none⟩),
          fun z9 _ => z9 = .agg #[.slice Ax px.length cx, .int .u64 (vx : Nat)],
          fun z9 _ => z9 = .int .i64 z]
          (by kernel_rfl) (by kernel_rfl) (by kernel_rfl) (by kernel_rfl) ?_ ?_ ?_
        · intro V hV v w1 w2 h hb
          simp only [List.mem_cons, List.not_mem_nil, or_false] at hV
          rcases hV with rfl | rfl | rfl | rfl | rfl | rfl | rfl | rfl | rfl | rfl | rfl | rfl
          all_goals first | exact h | (exact h)
        · intro iq oq hiq hoq
          match iq, hiq with
          | 0, _ =>
          obtain rfl := Option.some.inj hoq
          intro a1 w1 K hk hK
          have e4 : a1.tmps.getD 4 undef = .func (.func 205) #[] #[] := hk.same 4 (by simp)
          simp [Region.wanted, Oper.wp, Act.eval, go_sem, e4, k0, k1, q0, q1, hh1, hh2, ha1, ha2, hgl, hent, hdw, hdw2]
          exact hK _ _ (Below.refl _ _) rfl
          | 1, _ =>
          obtain rfl := Option.some.inj hoq
          intro a1 w1 K hk hK
          have e0 : a1.tmps.getD 0 undef = .slice (some ⟨g, 0, none⟩) m c := hk.same 0 (by simp)
          simp [Region.wanted, Oper.wp, Act.eval, go_sem, e0, k0, k1, q0, q1, hh1, hh2, ha1, ha2, hgl, hent, hdw, hdw2]
          exact hK _ _ (Below.refl _ _) rfl
          | 2, _ =>
          obtain rfl := Option.some.inj hoq
          intro a1 w1 K hk hK
          have e22 : a1.tmps.getD 22 undef = .int .i64 (p : Nat) := hk.same 22 (by simp)
          simp [Region.wanted, Oper.wp, Act.eval, go_sem, e22, k0, k1, q0, q1, hh1, hh2, ha1, ha2, hgl, hent, hdw, hdw2]
          exact hK _ _ (Below.refl _ _) rfl
          | 3, _ =>
          obtain rfl := Option.some.inj hoq
          intro a1 w1 K hk hK
          have e23 : a1.tmps.getD 23 undef = .int .i64 (c9 : Nat) := hk.same 23 (by simp)
          simp [Region.wanted, Oper.wp, Act.eval, go_sem, e23, k0, k1, q0, q1, hh1, hh2, ha1, ha2, hgl, hent, hdw, hdw2]
          exact hK _ _ (Below.refl _ _) rfl
          | 4, _ =>
          obtain rfl := Option.some.inj hoq
          intro a1 w1 K hk hK
          have d160 : a1.tmps.getD 160 undef = .int .i64 (p : Nat) := hk.deps ⟨2, .data⟩ (by simp) rfl _ _ rfl rfl
          have d161 : a1.tmps.getD 161 undef = .int .i64 (c9 : Nat) := hk.deps ⟨3, .data⟩ (by simp) rfl _ _ rfl rfl
          simp [Region.wanted, Oper.wp, Act.eval, go_sem, d160, d161, k0, k1, q0, q1, hh1, hh2, ha1, ha2, hgl, hent, hdw, hdw2]
          exact hK _ _ (Below.refl _ _) rfl
          | 5, _ =>
          obtain rfl := Option.some.inj hoq
          intro a1 w1 K hk hK
          have d159 : a1.tmps.getD 159 undef = .slice (some ⟨g, 0, none⟩) m c := hk.deps ⟨1, .data⟩ (by simp) rfl _ _ rfl rfl
          have d162 : a1.tmps.getD 162 undef = .int .i64 (d : Nat) := hk.deps ⟨4, .data⟩ (by simp) rfl _ _ rfl rfl
          simp [Region.wanted, Oper.wp, Act.eval, go_sem, d159, d162, k0, k1, q0, q1, hh1, hh2, ha1, ha2, hgl, hent, hdw, hdw2]
          exact hK _ _ (Below.refl _ _) rfl
          | 6, _ =>
          obtain rfl := Option.some.inj hoq
          intro a1 w1 K hk hK
          have d163 : a1.tmps.getD 163 undef = .pointer (some ⟨g, d * 2, none⟩) := hk.deps ⟨5, .data⟩ (by simp) rfl _ _ rfl rfl
          have c0 : w1.cell? ⟨g, d * 2, none⟩ = some (.slice Ay py.length cy) := Below.keeps hk.ext _ _ (by simp [go_sem, k0, k1, q0, q1, hh1, hh2, ha1, ha2, hgl, hent, hdw, hdw2])
          have c1 : w1.cell? ⟨g, d * 2 + 1, none⟩ = some (.int .u64 (vy : Nat)) := Below.keeps hk.ext _ _ (by simp [go_sem, k0, k1, q0, q1, hh1, hh2, ha1, ha2, hgl, hent, hdw, hdw2])
          have c2 : w1.cell? ⟨g, c9 * 2, none⟩ = some (.slice Ax px.length cx) := Below.keeps hk.ext _ _ (by simp [go_sem, k0, k1, q0, q1, hh1, hh2, ha1, ha2, hgl, hent, hdw, hdw2])
          have c3 : w1.cell? ⟨g, c9 * 2 + 1, none⟩ = some (.int .u64 (vx : Nat)) := Below.keeps hk.ext _ _ (by simp [go_sem, k0, k1, q0, q1, hh1, hh2, ha1, ha2, hgl, hent, hdw, hdw2])
          simp [Region.wanted, Oper.wp, Act.eval, go_sem, d163, c0, c1, c2, c3, k0, k1, q0, q1, hh1, hh2, ha1, ha2, hgl, hent, hdw, hdw2]
          exact hK _ _ (Below.refl _ _) rfl
          | 7, _ =>
          obtain rfl := Option.some.inj hoq
          intro a1 w1 K hk hK
          have e0 : a1.tmps.getD 0 undef = .slice (some ⟨g, 0, none⟩) m c := hk.same 0 (by simp)
          simp [Region.wanted, Oper.wp, Act.eval, go_sem, e0, k0, k1, q0, q1, hh1, hh2, ha1, ha2, hgl, hent, hdw, hdw2]
          exact hK _ _ (Below.refl _ _) rfl
          | 8, _ =>
          obtain rfl := Option.some.inj hoq
          intro a1 w1 K hk hK
          have e23 : a1.tmps.getD 23 undef = .int .i64 (c9 : Nat) := hk.same 23 (by simp)
          simp [Region.wanted, Oper.wp, Act.eval, go_sem, e23, k0, k1, q0, q1, hh1, hh2, ha1, ha2, hgl, hent, hdw, hdw2]
          exact hK _ _ (Below.refl _ _) rfl
          | 9, _ =>
          obtain rfl := Option.some.inj hoq
          intro a1 w1 K hk hK
          have d165 : a1.tmps.getD 165 undef = .slice (some ⟨g, 0, none⟩) m c := hk.deps ⟨7, .data⟩ (by simp) rfl _ _ rfl rfl
          have d166 : a1.tmps.getD 166 undef = .int .i64 (c9 : Nat) := hk.deps ⟨8, .data⟩ (by simp) rfl _ _ rfl rfl
          simp [Region.wanted, Oper.wp, Act.eval, go_sem, d165, d166, k0, k1, q0, q1, hh1, hh2, ha1, ha2, hgl, hent, hdw, hdw2]
          exact hK _ _ (Below.refl _ _) rfl
          | 10, _ =>
          obtain rfl := Option.some.inj hoq
          intro a1 w1 K hk hK
          have d167 : a1.tmps.getD 167 undef = .pointer (some ⟨g, c9 * 2, none⟩) := hk.deps ⟨9, .data⟩ (by simp) rfl _ _ rfl rfl
          have c0 : w1.cell? ⟨g, d * 2, none⟩ = some (.slice Ay py.length cy) := Below.keeps hk.ext _ _ (by simp [go_sem, k0, k1, q0, q1, hh1, hh2, ha1, ha2, hgl, hent, hdw, hdw2])
          have c1 : w1.cell? ⟨g, d * 2 + 1, none⟩ = some (.int .u64 (vy : Nat)) := Below.keeps hk.ext _ _ (by simp [go_sem, k0, k1, q0, q1, hh1, hh2, ha1, ha2, hgl, hent, hdw, hdw2])
          have c2 : w1.cell? ⟨g, c9 * 2, none⟩ = some (.slice Ax px.length cx) := Below.keeps hk.ext _ _ (by simp [go_sem, k0, k1, q0, q1, hh1, hh2, ha1, ha2, hgl, hent, hdw, hdw2])
          have c3 : w1.cell? ⟨g, c9 * 2 + 1, none⟩ = some (.int .u64 (vx : Nat)) := Below.keeps hk.ext _ _ (by simp [go_sem, k0, k1, q0, q1, hh1, hh2, ha1, ha2, hgl, hent, hdw, hdw2])
          simp [Region.wanted, Oper.wp, Act.eval, go_sem, d167, c0, c1, c2, c3, k0, k1, q0, q1, hh1, hh2, ha1, ha2, hgl, hent, hdw, hdw2]
          exact hK _ _ (Below.refl _ _) rfl
          | 11, _ =>
          obtain rfl := Option.some.inj hoq
          intro a1 w1 K hk hK
          have d158 : a1.tmps.getD 158 undef = .func (.func 205) #[] #[] := hk.deps ⟨0, .data⟩ (by simp) rfl _ _ rfl rfl
          have d164 : a1.tmps.getD 164 undef = .agg #[.slice Ay py.length cy, .int .u64 (vy : Nat)] := hk.deps ⟨6, .data⟩ (by simp) rfl _ _ rfl rfl
          have d168 : a1.tmps.getD 168 undef = .agg #[.slice Ax px.length cx, .int .u64 (vx : Nat)] := hk.deps ⟨10, .data⟩ (by simp) rfl _ _ rfl rfl
          simp [Region.wanted, Oper.wp, Act.eval, go_sem, d158, d164, d168, k0, k1, q0, q1, hh1, hh2, ha1, ha2, hgl, hent, hdw, hdw2]
          refine (HOR.out _ (below_trans (by repeat (first | exact Below.refl _ _ | (refine Below.drew ?_) | (refine below_drewN' ?_ _) | (refine below_alloc' ?_ _) | (refine Below.setCell ?_ (by first | exact Nat.le_refl _ | (simp; done) | (simp; omega)) _))) hk.ext)).mono ?_
          rintro e w9 ⟨rfl, hb9⟩
          exact hK _ _ hb9 rfl
        · intro vs w3 hl hb3 hv
          match vs, hl with
          | [v0, v1, v2, v3, v4, v5, v6, v7, v8, v9, v10, v11], _ =>
          obtain rfl : v0 = .func (.func 205) #[] #[] := hv 0 (by omega)
          obtain rfl : v1 = .slice (some ⟨g, 0, none⟩) m c := hv 1 (by omega)
          obtain rfl : v2 = .int .i64 (p : Nat) := hv 2 (by omega)
          obtain rfl : v3 = .int .i64 (c9 : Nat) := hv 3 (by omega)
          obtain rfl : v4 = .int .i64 (d : Nat) := hv 4 (by omega)
          obtain rfl : v5 = .pointer (some ⟨g, d * 2, none⟩) := hv 5 (by omega)
          obtain rfl : v6 = .agg #[.slice Ay py.length cy, .int .u64 (vy : Nat)] := hv 6 (by omega)
          obtain rfl : v7 = .slice (some ⟨g, 0, none⟩) m c := hv 7 (by omega)
          obtain rfl : v8 = .int .i64 (c9 : Nat) := hv 8 (by omega)
          obtain rfl : v9 = .pointer (some ⟨g, c9 * 2, none⟩) := hv 9 (by omega)
          obtain rfl : v10 = .agg #[.slice Ax px.length cx, .int .u64 (vx : Nat)] := hv 10 (by omega)
          obtain rfl : v11 = .int .i64 z := hv 11 (by omega)
          clear hv
          simp only [putAll, List.take_succ_cons, List.take_zero, List.drop_succ_cons, List.drop_zero, Act.put, List.setIfInBounds_toArray, List.set_cons_succ, List.set_cons_zero]
          have HP3 := Lib.hid (HI.out.2.step (show Below wr.heap.size wr w3 from hb3))
          clear hb3 hth k0 k1 q0 q1 hgl hdw hdw2
          by_cases hz0 : z < 0
          · have HL := Lib.hid (HDN.out (HZ.out.1 hz0))
            go_wp2_with fail
            go_roundw
            case rel => exact ⟨st, c9, rfl, rfl, HL.out, HP3.out⟩
            case measure => rw [intOf_nat, intOf_nat, intOf_nat]; exact HN.out.2
          · have HL := Lib.hid (HUP.out (fun h => hz0 (HZ.out.2 h)))
            go_wp2_with fail
            go_roundw
            case rel => exact ⟨c9 + 1, r, by rw [HW2.out], rfl, HL.out, HP3.out⟩
            case measure => rw [intOf_nat, intOf_of' HW2.out, intOf_nat]; exact HN.out.1
      · have hl2 := hI.l2
        obtain rfl : st = r := by omega
        have hcut := hI.cut HCB.out HK.out.2.2.2.1 HK.out.2.2.2.2 HD.out.2.1 HD.out.2.2.1
        obtain ⟨A1, hA1⟩ : ∃ l, A.take (st - a) = l := ⟨_, rfl⟩
        obtain ⟨A2, hA2⟩ : ∃ l, A.drop (st - a) = l := ⟨_, rfl⟩
        obtain ⟨B1, hB1⟩ : ∃ l, B.take (mid - st) = l := ⟨_, rfl⟩
        obtain ⟨B2, hB2⟩ : ∃ l, B.drop (mid - st) = l := ⟨_, rfl⟩
        rw [hA1, hA2, hB1, hB2] at hcut
        clear hA1 hA2 hB1 hB2
        have HCUT := Lib.hid hcut
        obtain ⟨cea, ceb, cl1, cl2, cl3, cl4, clt, cle⟩ := hcut
        obtain ⟨d1, d2, d3, d4, d5⟩ := HD.out
        have hNm := HNE.out
        have hcb := HCB.out
        obtain ⟨en, hst⟩ : ∃ en, st + en = N := ⟨N - st, by have := hcb.hd; have := hI.l3; omega⟩
        have HEN := Lib.hid (show wrap64 ((N : Int) - (st : Int)) = (en : Int) from wrap_sub (by omega) (by omega))
        have sA := HK.out.2.2.2.1
        have sB := HK.out.2.2.2.2
        rw [cea] at sA
        rw [ceb] at sB
        obtain ⟨sA1, sA2, sA12⟩ := List.pairwise_append.1 sA
        obtain ⟨sB1, sB2, sB12⟩ := List.pairwise_append.1 sB
        have hcbl : a < mm ∧ mm < b ∧ mid = (a + b) / 2 := ⟨hcb.am, hcb.mb, hcb.md⟩
        obtain ⟨q1, q2, q3⟩ := hcbl
        have hAl := congrArg List.length cea
        have hBl := congrArg List.length ceb
        rw [List.length_append] at hAl hBl
        have HQ0 := Lib.hid (show PR W0 wr g n (X ++ (A1 ++ (A2 ++ (B1 ++ (B2 ++ Y))))) from by have := hpr; rw [cea, ceb] at this; simpa using this)
        have hk1 : ∀ x' ∈ X ++ (A1 ++ (B1 ++ (A2 ++ (B2 ++ Y)))), x'.2.p.length = k ∧ ∀ q ∈ x'.2.p, q < 2 ^ 64 := fun x' hx => HK.out.1 x' (by rw [cea, ceb]; simp only [List.mem_append] at hx ⊢; rcases hx with h | h | h | h | h | h <;> simp [h])
        have HROT := Lib.hid (show ¬ A2.length = 0 → ¬ B1.length = 0 → ∀ w', PR W0 w' g n (X ++ (A1 ++ (A2 ++ (B1 ++ (B2 ++ Y))))) → Calls Tryz.prog 260 #[.slice (some ⟨g, 0, none⟩) m c, .int .i64 (st : Nat), .int .i64 (mm : Nat), .int .i64 (en : Nat), .func (.func 205) #[] #[]] w' fun e w'' => RotR W0 g n (X ++ (A1 ++ (B1 ++ (A2 ++ (B2 ++ Y))))) e w'' from fun z2 z3 w' hp => by
          have := rot_any W0 w' g n st mm en m c (X ++ A1) A2 B1 (B2 ++ Y) (by simp; omega) (by omega) (by omega) (by simp; omega) d5 (fun h => z2 (by rw [h]; rfl)) (fun h => z3 (by rw [h]; rfl)) (by simpa using hp)
          simpa using this)
        have HNR := Lib.hid (show (A2.length = 0 ∨ B1.length = 0) → ∀ w', PR W0 w' g n (X ++ (A1 ++ (A2 ++ (B1 ++ (B2 ++ Y))))) → PR W0 w' g n (X ++ (A1 ++ (B1 ++ (A2 ++ (B2 ++ Y))))) from fun h w' hp => by
          rcases h with h | h
          · rw [List.length_eq_zero_iff] at h; subst h; simpa using hp
          · rw [List.length_eq_zero_iff] at h; subst h; simpa using hp)
        have HL := Lib.hid (show ¬ A1.length = 0 → ¬ B1.length = 0 → ∀ w', PR W0 w' g n (X ++ (A1 ++ (B1 ++ (A2 ++ (B2 ++ Y))))) → Calls Tryz.prog 256 #[.slice (some ⟨g, 0, none⟩) m c, .int .i64 (a : Nat), .int .i64 (st : Nat), .int .i64 (mid : Nat), .func (.func 205) #[] #[]] w' fun e w'' => MrgR W0 g n X (A1 ++ B1) (A2 ++ (B2 ++ Y)) e w'' from fun z1 z3 w' hp =>
          HIH.out w' a st mid X A1 B1 (A2 ++ (B2 ++ Y)) (by omega) d1 cl1 cl3 (by simp; omega) (fun h => z1 (by rw [h]; rfl)) (fun h => z3 (by rw [h]; rfl)) hp hk1 sA1 sB1)
        have HNL := Lib.hid (show (A1.length = 0 ∨ B1.length = 0) → ∀ w', PR W0 w' g n (X ++ (A1 ++ (B1 ++ (A2 ++ (B2 ++ Y))))) → Half W0 w' g n X (A1 ++ B1) (A1 ++ B1) (A2 ++ (B2 ++ Y)) from fun h w' hp => ⟨by simpa using hp, rfl, Stb.refl _, by
          rcases h with h | h
          · rw [List.length_eq_zero_iff] at h; subst h; rw [List.nil_append]; exact sB1
          · rw [List.length_eq_zero_iff] at h; subst h; rw [List.append_nil]; exact sA1⟩)
        have HR := Lib.hid (show ¬ A2.length = 0 → ¬ B2.length = 0 → ∀ (w' : World) (M1 : List Pe), Half W0 w' g n X (A1 ++ B1) M1 (A2 ++ (B2 ++ Y)) → Calls Tryz.prog 256 #[.slice (some ⟨g, 0, none⟩) m c, .int .i64 (mid : Nat), .int .i64 (en : Nat), .int .i64 (b : Nat), .func (.func 205) #[] #[]] w' fun e w'' => MrgR W0 g n (X ++ M1) (A2 ++ B2) Y e w'' from fun z2 z4 w' M1 ⟨hp, hl, hs, ho⟩ => by
          rw [List.length_append] at hl
          exact HIH.out w' mid en b (X ++ M1) A2 B2 Y (by omega) (by simp; omega) (by omega) (by omega) d4 (fun h => z2 (by rw [h]; rfl)) (fun h => z4 (by rw [h]; rfl)) (by simpa using hp) (fun x' hx => hk1 x' (by
            have hm := hs.mem (x := x')
            simp only [List.mem_append] at hx hm ⊢
            rcases hx with (h | h) | h | h | h
            · exact .inl h
            · rcases hm.2 h with h | h
              · exact .inr (.inl h)
              · exact .inr (.inr (.inl h))
            · exact .inr (.inr (.inr (.inl h)))
            · exact .inr (.inr (.inr (.inr (.inl h))))
            · exact .inr (.inr (.inr (.inr (.inr h)))))) sA2 sB2)
        have HNR2 := Lib.hid (show (A2.length = 0 ∨ B2.length = 0) → ∀ (w' : World) (M1 : List Pe), Half W0 w' g n X (A1 ++ B1) M1 (A2 ++ (B2 ++ Y)) → Half W0 w' g n (X ++ M1) (A2 ++ B2) (A2 ++ B2) Y from fun h w' M1 ⟨hp, _, _, _⟩ => ⟨by simpa using hp, rfl, Stb.refl _, by
          rcases h with h | h
          · rw [List.length_eq_zero_iff] at h; subst h; rw [List.nil_append]; exact sB2
          · rw [List.length_eq_zero_iff] at h; subst h; rw [List.append_nil]; exact sA2⟩)
        have HFIN := Lib.hid (show ∀ (w' : World) (M1 M2 : List Pe), (∃ w0, Half W0 w0 g n X (A1 ++ B1) M1 (A2 ++ (B2 ++ Y))) → Half W0 w' g n (X ++ M1) (A2 ++ B2) M2 Y → MrgR W0 g n X (A ++ B) Y (.returned (.tuple #[])) w' from fun w' M1 M2 ⟨w0, _, l1, s1, o1⟩ ⟨hp, l2, s2, o2⟩ => by
          refine ⟨M1 ++ M2, rfl, by simpa using hp, by rw [cea, ceb]; simp only [List.length_append] at l1 l2 ⊢; omega, ?_, ?_⟩
          · rw [cea, ceb]
            have e1 : Stb (A2 ++ B1) (B1 ++ A2) := Stb.swap fun u hu v hv => by have := clt v hv u hu; omega
            have e2 := ((Stb.refl A1).append (e1.append (Stb.refl B2))).trans (by have := s1.append s2; simpa using this)
            simpa using e2
          · refine List.pairwise_append.2 ⟨o1, o2, fun u hu v hv => ?_⟩
            have hu := s1.mem.2 hu
            have hv := s2.mem.2 hv
            rcases List.mem_append.1 hu with hu | hu <;> rcases List.mem_append.1 hv with hv | hv
            · exact sA12 u hu v hv
            · exact cle u hu v hv
            · exact Nat.le_of_lt (clt u hu v hv)
            · exact sB12 u hu v hv)
        have hstr : ¬ (st : Int) < (st : Int) := by omega
        clear hI hpr cea ceb clt cle hcb sA sB sA1 sA2 sA12 sB1 sB2 sB12 hk1
        by_cases z2 : A2.length = 0
        · by_cases z3 : B1.length = 0
          · first
              | (exfalso; omega)
              | skip
                have HC1 := Lib.hid (HNR.out (by omega))
                have HC2 := Lib.hid (HNL.out (by omega))
                have HC3 := Lib.hid (HNR2.out (by omega))
                have g1 : ¬ ((st : Int) < (mm : Int)) := by omega
                have g3 : ((a : Int) < (st : Int)) := by omega
                have g4 : ¬ ((st : Int) < (mid : Int)) := by omega
                have g5 : ¬ ((mid : Int) < (en : Int)) := by omega
                clear z2 z3 q1 q2 q3 hAl hBl hl2 hlt cl1 cl2 cl3 cl4 hst hNm d1 d2 d3 d4 d5
                have hen := HEN.out
                go_wp2_with fail
                clear hen
                have HP1 := Lib.hid (HC1.out _ HQ0.out)
                have HP2 := Lib.hid (HC2.out _ HP1.out)
                have HP3 := Lib.hid (HC3.out _ _ HP2.out)
                go_end0
                exact HFIN.out _ _ _ ⟨_, HP2.out⟩ HP3.out
          · first
              | (exfalso; omega)
              | skip
                have HC1 := Lib.hid (HNR.out (by omega))
                have HC2 := Lib.hid (HL.out (by omega) (by omega))
                have HC3 := Lib.hid (HNR2.out (by omega))
                have g1 : ¬ ((st : Int) < (mm : Int)) := by omega
                have g3 : ((a : Int) < (st : Int)) := by omega
                have g4 : ((st : Int) < (mid : Int)) := by omega
                have g5 : ¬ ((mid : Int) < (en : Int)) := by omega
                clear z2 z3 q1 q2 q3 hAl hBl hl2 hlt cl1 cl2 cl3 cl4 hst hNm d1 d2 d3 d4 d5
                have hen := HEN.out
                go_wp2_with fail
                clear hen
                have HP1 := Lib.hid (HC1.out _ HQ0.out)
                refine (HC2.out _ HP1.out).mono ?_
                rintro e w3 ⟨M1, rfl, hp, hl, hs, ho⟩
                have HP2 := Lib.hid (show Half W0 w3 g n X (A1 ++ B1) M1 (A2 ++ (B2 ++ Y)) from ⟨hp, hl, hs, ho⟩)
                clear hp hl hs ho
                have hen := HEN.out
                go_wp2_with fail
                clear hen
                have HP3 := Lib.hid (HC3.out _ _ HP2.out)
                go_end0
                exact HFIN.out _ _ _ ⟨_, HP2.out⟩ HP3.out
        · by_cases z3 : B1.length = 0
          · first
              | (exfalso; omega)
              | skip
                have HC1 := Lib.hid (HNR.out (by omega))
                have HC2 := Lib.hid (HNL.out (by omega))
                have HC3 := Lib.hid (HR.out (by omega) (by omega))
                have g1 : ((st : Int) < (mm : Int)) := by omega
                have g2 : ¬ ((mm : Int) < (en : Int)) := by omega
                have g3 : ((a : Int) < (st : Int)) := by omega
                have g4 : ¬ ((st : Int) < (mid : Int)) := by omega
                have g5 : ((mid : Int) < (en : Int)) := by omega
                have g6 : ((en : Int) < (b : Int)) := by omega
                clear z2 z3 q1 q2 q3 hAl hBl hl2 hlt cl1 cl2 cl3 cl4 hst hNm d1 d2 d3 d4 d5
                have hen := HEN.out
                go_wp2_with fail
                clear hen
                have HP1 := Lib.hid (HC1.out _ HQ0.out)
                have HP2 := Lib.hid (HC2.out _ HP1.out)
                (try rw [HEN.out])
                refine (HC3.out _ _ HP2.out).mono ?_
                rintro e w4 ⟨M2, rfl, hp, hl, hs, ho⟩
                have HP3 := Lib.hid (show Half W0 w4 g n _ (A2 ++ B2) M2 Y from ⟨hp, hl, hs, ho⟩)
                clear hp hl hs ho
                go_wp2_with fail
                go_end0
                exact HFIN.out _ _ _ ⟨_, HP2.out⟩ HP3.out
          · by_cases z1 : A1.length = 0
            · by_cases z4 : B2.length = 0
              · have HC1 := Lib.hid (HROT.out (by omega) (by omega))
                have HC2 := Lib.hid (HNL.out (by omega))
                have HC3 := Lib.hid (HNR2.out (by omega))
                have g1 : ((st : Int) < (mm : Int)) := by omega
                have g2 : ((mm : Int) < (en : Int)) := by omega
                have g3 : ¬ ((a : Int) < (st : Int)) := by omega
                have g5 : ((mid : Int) < (en : Int)) := by omega
                have g6 : ¬ ((en : Int) < (b : Int)) := by omega
                clear z2 z3 z1 z4 q1 q2 q3 hAl hBl hl2 hlt cl1 cl2 cl3 cl4 hst hNm d1 d2 d3 d4 d5
                have hen := HEN.out
                go_wp2_with fail
                clear hen
                (try rw [HEN.out])
                refine (HC1.out _ HQ0.out).mono ?_
                rintro e w2 ⟨rfl, hp⟩
                have HP1 := Lib.hid hp
                clear hp
                have hen := HEN.out
                go_wp2_with fail
                clear hen
                have HP2 := Lib.hid (HC2.out _ HP1.out)
                have HP3 := Lib.hid (HC3.out _ _ HP2.out)
                go_end0
                exact HFIN.out _ _ _ ⟨_, HP2.out⟩ HP3.out
              · have HC1 := Lib.hid (HROT.out (by omega) (by omega))
                have HC2 := Lib.hid (HNL.out (by omega))
                have HC3 := Lib.hid (HR.out (by omega) (by omega))
                have g1 : ((st : Int) < (mm : Int)) := by omega
                have g2 : ((mm : Int) < (en : Int)) := by omega
                have g3 : ¬ ((a : Int) < (st : Int)) := by omega
                have g5 : ((mid : Int) < (en : Int)) := by omega
                have g6 : ((en : Int) < (b : Int)) := by omega
                clear z2 z3 z1 z4 q1 q2 q3 hAl hBl hl2 hlt cl1 cl2 cl3 cl4 hst hNm d1 d2 d3 d4 d5
                have hen := HEN.out
                go_wp2_with fail
                clear hen
                (try rw [HEN.out])
                refine (HC1.out _ HQ0.out).mono ?_
                rintro e w2 ⟨rfl, hp⟩
                have HP1 := Lib.hid hp
                clear hp
                have hen := HEN.out
                go_wp2_with fail
                clear hen
                have HP2 := Lib.hid (HC2.out _ HP1.out)
                (try rw [HEN.out])
                refine (HC3.out _ _ HP2.out).mono ?_
                rintro e w4 ⟨M2, rfl, hp, hl, hs, ho⟩
                have HP3 := Lib.hid (show Half W0 w4 g n _ (A2 ++ B2) M2 Y from ⟨hp, hl, hs, ho⟩)
                clear hp hl hs ho
                go_wp2_with fail
                go_end0
                exact HFIN.out _ _ _ ⟨_, HP2.out⟩ HP3.out
            · by_cases z4 : B2.length = 0
              · have HC1 := Lib.hid (HROT.out (by omega) (by omega))
                have HC2 := Lib.hid (HL.out (by omega) (by omega))
                have HC3 := Lib.hid (HNR2.out (by omega))
                have g1 : ((st : Int) < (mm : Int)) := by omega
                have g2 : ((mm : Int) < (en : Int)) := by omega
                have g3 : ((a : Int) < (st : Int)) := by omega
                have g4 : ((st : Int) < (mid : Int)) := by omega
                have g5 : ((mid : Int) < (en : Int)) := by omega
                have g6 : ¬ ((en : Int) < (b : Int)) := by omega
                clear z2 z3 z1 z4 q1 q2 q3 hAl hBl hl2 hlt cl1 cl2 cl3 cl4 hst hNm d1 d2 d3 d4 d5
                have hen := HEN.out
                go_wp2_with fail
                clear hen
                (try rw [HEN.out])
                refine (HC1.out _ HQ0.out).mono ?_
                rintro e w2 ⟨rfl, hp⟩
                have HP1 := Lib.hid hp
                clear hp
                have hen := HEN.out
                go_wp2_with fail
                clear hen
                refine (HC2.out _ HP1.out).mono ?_
                rintro e w3 ⟨M1, rfl, hp, hl, hs, ho⟩
                have HP2 := Lib.hid (show Half W0 w3 g n X (A1 ++ B1) M1 (A2 ++ (B2 ++ Y)) from ⟨hp, hl, hs, ho⟩)
                clear hp hl hs ho
                have hen := HEN.out
                go_wp2_with fail
                clear hen
                have HP3 := Lib.hid (HC3.out _ _ HP2.out)
                go_end0
                exact HFIN.out _ _ _ ⟨_, HP2.out⟩ HP3.out
              · have HC1 := Lib.hid (HROT.out (by omega) (by omega))
                have HC2 := Lib.hid (HL.out (by omega) (by omega))
                have HC3 := Lib.hid (HR.out (by omega) (by omega))
                have g1 : ((st : Int) < (mm : Int)) := by omega
                have g2 : ((mm : Int) < (en : Int)) := by omega
                have g3 : ((a : Int) < (st : Int)) := by omega
                have g4 : ((st : Int) < (mid : Int)) := by omega
                have g5 : ((mid : Int) < (en : Int)) := by omega
                have g6 : ((en : Int) < (b : Int)) := by omega
                clear z2 z3 z1 z4 q1 q2 q3 hAl hBl hl2 hlt cl1 cl2 cl3 cl4 hst hNm d1 d2 d3 d4 d5
                have hen := HEN.out
                go_wp2_with fail
                clear hen
                (try rw [HEN.out])
                refine (HC1.out _ HQ0.out).mono ?_
                rintro e w2 ⟨rfl, hp⟩
                have HP1 := Lib.hid hp
                clear hp
                have hen := HEN.out
                go_wp2_with fail
                clear hen
                refine (HC2.out _ HP1.out).mono ?_
                rintro e w3 ⟨M1, rfl, hp, hl, hs, ho⟩
                have HP2 := Lib.hid (show Half W0 w3 g n X (A1 ++ B1) M1 (A2 ++ (B2 ++ Y)) from ⟨hp, hl, hs, ho⟩)
                clear hp hl hs ho
                have hen := HEN.out
                go_wp2_with fail
                clear hen
                (try rw [HEN.out])
                refine (HC3.out _ _ HP2.out).mono ?_
                rintro e w4 ⟨M2, rfl, hp, hl, hs, ho⟩
                have HP3 := Lib.hid (show Half W0 w4 g n _ (A2 ++ B2) M2 Y from ⟨hp, hl, hs, ho⟩)
                clear hp hl hs ho
                go_wp2_with fail
                go_end0
                exact HFIN.out _ _ _ ⟨_, HP2.out⟩ HP3.out
end Go.Proofs.YtdkomhmciihkiaaGreat
/-! SrtK -/
namespace Go.Proofs.YtdkomhmciihkiaaGreat
open Go.RowKit
set_option linter.unusedVariables false
set_option linter.unusedSimpArgs false
set_option maxRecDepth 100000

theorem sym_any (W0 : World) (g n m c k : Nat) (k1 : 1 ≤ k) (k16 : k ≤ 16) (hmx : m ≤ 1000) : ∀ (N : Nat) (w : World) (a mm b : Nat) (X A B Y : List Pe), A.length + B.length ≤ N → X.length = a → a + A.length = mm → mm + B.length = b → b + Y.length = m → A ≠ [] → B ≠ [] → PR W0 w g n (X ++ (A ++ (B ++ Y))) →
    (∀ x' ∈ X ++ (A ++ (B ++ Y)), x'.2.p.length = k ∧ ∀ q ∈ x'.2.p, q < 2 ^ 64) → Srt A → Srt B →
    Calls Tryz.prog 256 #[.slice (some ⟨g, 0, none⟩) m c, .int .i64 (a : Nat), .int .i64 (mm : Nat), .int .i64 (b : Nat), .func (.func 205) #[] #[]] w fun e w' => MrgR W0 g n X (A ++ B) Y e w' := by
  intro N
  induction N with
  | zero =>
    intro w a mm b X A B Y hN _ _ _ _ hA
    exact absurd (List.length_eq_zero_iff.1 (by omega)) hA
  | succ N ih =>
    intro w a mm b X A B Y hN ha hmm hb hm hA hB h hk sA sB
    cases A with
    | nil => exact absurd rfl hA
    | cons x A' =>
      cases A' with
      | nil => exact sym_left W0 w g n a mm b m c k X B Y x ha (by simpa using hmm) hb hm hmx k1 k16 h hk sB
      | cons x2 A2 =>
        cases B with
        | nil => exact absurd rfl hB
        | cons y B' =>
          cases B' with
          | nil => exact sym_right W0 w g n a mm b m c k X (x :: x2 :: A2) Y y ha hmm (by simpa using hb) hm hmx (by simp) k1 k16 h hk sA
          | cons y2 B2 =>
            exact sym_gen W0 w g n a mm b m c k X (x :: x2 :: A2) (y :: y2 :: B2) Y ha hmm hb hm hmx (by simp) (by simp) k1 k16 h hk sA sB
              fun w' a' mm' b' X' A' B' Y' hlt h1 h2 h3 h4 h5 h6 h7 h8 h9 h10 => ih w' a' mm' b' X' A' B' Y' (by omega) h1 h2 h3 h4 h5 h6 h7 h8 h9 h10
theorem isort_empty (w : World) (a m c : Nat) (A : Option Addr) (hm : a ≤ 1000) :
    Calls Tryz.prog 255 #[.slice A m c, .int .i64 (a : Nat), .int .i64 (a : Nat), .func (.func 205) #[] #[]] w fun e w' => e = .returned (.tuple #[]) ∧ w' = w := by
  have HW := Lib.hid (show wrap64 ((a : Int) + 1) = ((a + 1 : Nat) : Int) from wrap_succ (by omega))
  obtain ⟨b, hb⟩ : ∃ b, a + 1 = b := ⟨_, rfl⟩
  rw [hb] at HW
  have hlt : ¬ (b : Int) < (a : Int) := by omega
  clear hb hm
  go_enter Tryz.func255, Tryz.ntmps255
  go_wp2_with fail
  go_loopw [8, 9] (fun iv _ wr => iv = .int .i64 (b : Nat) ∧ wr = w) (fun _ _ _ => 0)
  case atStart => exact ⟨by rw [HW.out], rfl⟩
  case round =>
    obtain ⟨rfl, hw⟩ := hrel
    subst hw
    go_wp2_with fail
    go_end0
    exact ⟨rfl, rfl⟩
/-- blocks of bs each in order, and a rest -/
structure Blk (W0 w : World) (g n m bs : Nat) (xs : List Pe) (Ms Ls : List (List Pe)) (R : List Pe) : Prop where
  pr : PR W0 w g n (Ms.flatten ++ (Ls.flatten ++ R))
  stb : Stb xs (Ms.flatten ++ (Ls.flatten ++ R))
  len : Ms.flatten.length + (Ls.flatten.length + R.length) = m
  lm : ∀ L ∈ Ms, L.length = 2 * bs ∧ Srt L
  ll : ∀ L ∈ Ls, L.length = bs ∧ Srt L
  rl : R.length < bs
  rs : Srt R
theorem Stb.hk {k : Nat} {xs ys : List Pe} (h : Stb xs ys) (hk : ∀ x ∈ xs, x.2.p.length = k ∧ ∀ q ∈ x.2.p, q < 2 ^ 64) : ∀ x ∈ ys, x.2.p.length = k ∧ ∀ q ∈ x.2.p, q < 2 ^ 64 := fun x hx => hk x (h.mem.2 hx)
theorem flatten_snoc {α : Type} (Ls : List (List α)) (L : List α) : (Ls ++ [L]).flatten = Ls.flatten ++ L := by simp
set_option maxHeartbeats 8000000 in
theorem stc_any (W0 w : World) (g n c k : Nat) (xs : List Pe) (hl : xs.length ≤ 1000) (k1 : 1 ≤ k) (k16 : k ≤ 16) (h : PR W0 w g n xs) (hk : ∀ x ∈ xs, x.2.p.length = k ∧ ∀ q ∈ x.2.p, q < 2 ^ 64) :
    Calls Tryz.prog 244 #[.slice (some ⟨g, 0, none⟩) xs.length c, .int .i64 (xs.length : Nat), .func (.func 205) #[] #[]] w fun e w' => SortR W0 g n xs e w' := by
  have HP0 := Lib.hid h
  obtain ⟨m, hm⟩ : ∃ m, xs.length = m := ⟨_, rfl⟩
  rw [hm]
  have HD := Lib.hid (And.intro hm (show m ≤ 1000 by omega))
  have HK := Lib.hid (And.intro hk (And.intro k1 k16))
  clear hl k1 k16 h hk hm
  go_enter Tryz.func244, Tryz.ntmps244
  go_wp2_with fail
  go_loopw [7, 8] (fun av bv wr => ∃ (Ls : List (List Pe)) (R : List Pe) (a : Nat), av = .int .i64 (a : Nat) ∧ bv = .int .i64 ((a + 20 : Nat) : Int) ∧ Ls.flatten.length = a ∧ a + R.length = m ∧ PR W0 wr g n (Ls.flatten ++ R) ∧ Stb xs (Ls.flatten ++ R) ∧ (∀ L ∈ Ls, L.length = 20 ∧ Srt L)) (fun _ bv _ => m + 20 - (intOf bv).toNat)
  case atStart => exact ⟨[], xs, 0, rfl, rfl, rfl, by have := HD.out.1; simpa using this, HP0.out, Stb.refl _, by simp⟩
  case round =>
    obtain ⟨Ls, R, a, rfl, rfl, hla, har, hpr, hstb, hll⟩ := hrel
    have HI := Lib.hid (And.intro hla (And.intro har (And.intro hpr (And.intro hstb hll))))
    obtain ⟨b, hb⟩ : ∃ b, a + 20 = b := ⟨_, rfl⟩
    rw [hb]
    have hm1 := HD.out.2
    by_cases hle : b ≤ m
    · have hle2 : (b : Int) ≤ (m : Int) := by omega
      have hR20 : (R.take 20).length = 20 := by rw [List.length_take]; omega
      have eR : R = R.take 20 ++ R.drop 20 := (List.take_append_drop _ _).symm
      obtain ⟨S, hS⟩ : ∃ S, R.take 20 = S := ⟨_, rfl⟩
      obtain ⟨Q, hQ⟩ : ∃ Q, R.drop 20 = Q := ⟨_, rfl⟩
      rw [hS] at hR20 eR
      rw [hQ] at eR
      subst eR
      have hne : S ≠ [] := fun h => by rw [h] at hR20; simp at hR20
      have HINS := Lib.hid (isort_any W0 wr g n a b m c k Ls.flatten S Q hla (by omega) (by rw [List.length_append, hla]; exact har) hm1 HK.out.2.1 HK.out.2.2 hpr (hstb.hk HK.out.1) hne)
      have HW := Lib.hid (show wrap64 ((b : Int) + 20) = ((b + 20 : Nat) : Int) from by have := wrap_add (a := b) (i := 20) rfl (by omega); exact this)
      have hbq : b + Q.length = m := by rw [List.length_append] at har; omega
      have HN := Lib.hid (And.intro hb (And.intro hbq (And.intro hR20 hle)))
      clear hla har hpr hstb hll hb hm1 hle hR20 hS hQ hne hbq
      go_wp2_with fail
      refine HINS.out.mono ?_
      rintro e w2 ⟨S', rfl, hp, hl2, hs, hsrt⟩
      have HF := Lib.hid (And.intro hp (And.intro hl2 (And.intro hs hsrt)))
      clear hp hl2 hs hsrt
      go_wp2_with fail
      go_roundw
      case rel =>
        obtain ⟨i1, i2, i3, i4, i5⟩ := HI.out
        obtain ⟨f1, f2, f3, f4⟩ := HF.out
        obtain ⟨n1, n2, n3, n4⟩ := HN.out
        refine ⟨Ls ++ [S'], Q, b, rfl, HW.out ▸ rfl, by rw [flatten_snoc, List.length_append]; omega, n2, by rw [flatten_snoc, List.append_assoc]; exact f1, ?_, fun L hL => ?_⟩
        · rw [flatten_snoc, List.append_assoc]
          exact i4.trans ((Stb.refl _).append (f3.append (Stb.refl _)))
        · rcases List.mem_append.1 hL with hL | hL
          · exact i5 L hL
          · obtain rfl := List.mem_singleton.1 hL
            exact ⟨by omega, f4⟩
      case measure =>
        have hle := HN.out.2.2.2
        rw [intOf_of' HW.out, intOf_nat, Int.toNat_natCast, Int.toNat_natCast]
        omega
    · have hle2 : ¬ (b : Int) ≤ (m : Int) := by omega
      have HINS := Lib.hid (show Calls Tryz.prog 255 #[.slice (some ⟨g, 0, none⟩) m c, .int .i64 (a : Nat), .int .i64 (m : Nat), .func (.func 205) #[] #[]] wr fun e w' => InsR W0 g n Ls.flatten R [] e w' from by
        by_cases hne : R = []
        · subst hne
          have e : m = a := by simpa using har.symm
          subst e
          exact (isort_empty wr m m c _ hm1).mono fun e w' ⟨h1, h2⟩ => ⟨[], h1, by rw [h2]; simpa using hpr, rfl, Stb.refl _, List.Pairwise.nil⟩
        · exact isort_any W0 wr g n a m m c k Ls.flatten R [] hla har (by rw [List.append_nil, List.length_append, hla]; exact har) hm1 HK.out.2.1 HK.out.2.2 (by rw [List.append_nil]; exact hpr) (by rw [List.append_nil]; exact hstb.hk HK.out.1) hne)
      have HN := Lib.hid (And.intro hb hle)
      clear hla har hpr hstb hll hb hm1 hle
      go_wp2_with fail
      refine HINS.out.mono ?_
      rintro e w2 ⟨R', rfl, hp, hl2, hs, hsrt⟩
      have HB0 := Lib.hid (show Blk W0 w2 g n m 20 xs [] Ls R' from by
        obtain ⟨i1, i2, i3, i4, i5⟩ := HI.out
        obtain ⟨n1, n2⟩ := HN.out
        refine ⟨by simpa using hp, ?_, by simp only [List.flatten_nil, List.length_nil]; omega, by simp, i5, by omega, hsrt⟩
        simp only [List.flatten_nil, List.nil_append]
        exact i4.trans ((Stb.refl _).append hs))
      clear hp hl2 hs hsrt
      go_wp2_with fail
      go_loopw [6, 7, 8, 9] (fun sv _ _ _ wr => ∃ (bs : Nat) (Ls : List (List Pe)) (R : List Pe), sv = .int .i64 (bs : Nat) ∧ 20 ≤ bs ∧ bs ≤ 2000 ∧ Blk W0 wr g n m bs xs [] Ls R) (fun sv _ _ _ _ => m - (intOf sv).toNat)
      case atStart => exact ⟨20, Ls, R', rfl, by omega, by omega, HB0.out⟩
      case round =>
        obtain ⟨bs, Ls2, R2, rfl, hb20, hb2, hB⟩ := hrel
        have HBK := Lib.hid hB
        have HBS := Lib.hid (And.intro hb20 hb2)
        have hm1 := HD.out.2
        by_cases hlt : bs < m
        · have hlt2 : (bs : Int) < (m : Int) := by omega
          obtain ⟨b2, hbb⟩ : ∃ b2, 2 * bs = b2 := ⟨_, rfl⟩
          have HW2 := Lib.hid (show wrap64 (2 * (bs : Int)) = (b2 : Int) from by unfold wrap64; omega)
          have HW3 := Lib.hid (show wrap64 ((bs : Int) * 2) = (b2 : Int) from by have := HW2.out; rw [Int.mul_comm]; exact this)
          have HBB := Lib.hid hbb
          have HLT := Lib.hid hlt
          have HB00 := Lib.hid hB
          clear hB hb20 hb2 hm1 hlt hbb
          go_wp2_with fail
          (try rw [HW2.out])
          go_loopw [7, 8] (fun av bv wr => ∃ (Ms Ls : List (List Pe)) (R : List Pe) (a b : Nat), av = .int .i64 (a : Nat) ∧ bv = .int .i64 (b : Nat) ∧ a + b2 = b ∧ Ms.flatten.length = a ∧ Blk W0 wr g n m bs xs Ms Ls R) (fun _ bv _ => m + 4000 - (intOf bv).toNat)
          case atStart => exact ⟨[], Ls2, R2, 0, b2, rfl, rfl, by omega, rfl, HB00.out⟩
          case round =>
            obtain ⟨Ms, Ls3, R3, a3, b3, rfl, rfl, hab, hma, hB3⟩ := hrel
            have HB3 := Lib.hid hB3
            have hm1 := HD.out.2
            have hbb := HBB.out
            obtain ⟨hb20, hb2⟩ := HBS.out
            have hlen := hB3.len
            have hrl := hB3.rl
            by_cases hle3 : b3 ≤ m
            · have hle4 : (b3 : Int) ≤ (m : Int) := by omega
              obtain ⟨L1, L2, Lr, hL⟩ : ∃ L1 L2 Lr, Ls3 = L1 :: L2 :: Lr := by
                cases Ls3 with
                | nil => simp only [List.flatten_nil, List.length_nil] at hlen; omega
                | cons L1 Lr =>
                  have h1 := (hB3.ll L1 (by simp)).1
                  cases Lr with
                  | nil => simp only [List.flatten_cons, List.flatten_nil, List.length_append, List.length_nil] at hlen; omega
                  | cons L2 Lr => exact ⟨L1, L2, Lr, rfl⟩
              subst hL
              obtain ⟨l1, s1⟩ := hB3.ll L1 (by simp)
              obtain ⟨l2, s2⟩ := hB3.ll L2 (by simp)
              obtain ⟨mm, hmm⟩ : ∃ mm, a3 + bs = mm := ⟨_, rfl⟩
              have hln2 : a3 + (bs + (bs + Lr.flatten.length) + R3.length) = m := by simp only [List.flatten_cons, List.length_append] at hlen; omega
              have e1 : Ms.flatten ++ ((L1 :: L2 :: Lr).flatten ++ R3) = Ms.flatten ++ (L1 ++ (L2 ++ (Lr.flatten ++ R3))) := by simp
              have hpr := hB3.pr
              have hst := hB3.stb
              rw [e1] at hpr hst
              have HSYM := Lib.hid (sym_any W0 g n m c k HK.out.2.1 HK.out.2.2 hm1 _ wr a3 mm b3 Ms.flatten L1 L2 (Lr.flatten ++ R3) (Nat.le_refl _) hma (by omega) (by omega) (by rw [List.length_append]; omega) (by intro h; rw [h] at l1; simp at l1; omega) (by intro h; rw [h] at l2; simp at l2; omega) hpr (hst.hk HK.out.1) s1 s2)
              have HNX := Lib.hid (show ∀ w' M, PR W0 w' g n (Ms.flatten ++ (M ++ (Lr.flatten ++ R3))) → M.length = (L1 ++ L2).length → Stb (L1 ++ L2) M → Srt M → (Ms ++ [M]).flatten.length = b3 ∧ Blk W0 w' g n m bs xs (Ms ++ [M]) Lr R3 from fun w' M h1 h2 h3 h4 => by
                rw [List.length_append] at h2
                refine ⟨by rw [flatten_snoc, List.length_append]; omega, by rw [flatten_snoc, List.append_assoc]; exact h1, ?_, by rw [flatten_snoc, List.length_append]; omega, fun L hL => ?_, fun L hL => hB3.ll L (by simp [hL]), hrl, hB3.rs⟩
                · rw [flatten_snoc, List.append_assoc]
                  refine hst.trans ((Stb.refl _).append ?_)
                  have := h3.append (Stb.refl (Lr.flatten ++ R3))
                  simpa using this
                · rcases List.mem_append.1 hL with hL | hL
                  · exact hB3.lm L hL
                  · obtain rfl := List.mem_singleton.1 hL
                    exact ⟨by omega, h4⟩)
              have HWA := Lib.hid (show wrap64 ((a3 : Int) + (bs : Int)) = (mm : Int) from wrap_add (by omega) (by omega))
              have HWB := Lib.hid (show wrap64 ((b3 : Int) + (b2 : Int)) = ((b3 + b2 : Nat) : Int) from wrap_add rfl (by omega))
              have HN3 := Lib.hid (show m + 4000 - (b3 + b2) < m + 4000 - b3 from by omega)
              clear hB3 hab hma hbb hb20 hb2 hlen hrl hle3 l1 s1 l2 s2 hmm hln2 e1 hpr hst hm1
              have hw2 : wrap64 (2 * (bs : Int)) = (b2 : Int) := HW2.out
              have hwa := HWA.out
              go_wp2_with fail
              clear hw2 hwa
              (try rw [HWA.out])
              refine HSYM.out.mono ?_
              rintro e w5 ⟨M, rfl, hp, hl5, hs, ho⟩
              have HNW := Lib.hid (HNX.out _ M hp hl5 hs ho)
              clear hp hl5 hs ho
              have hw2 : wrap64 (2 * (bs : Int)) = (b2 : Int) := HW2.out
              go_wp2_with fail
              clear hw2
              go_roundw
              case rel => exact ⟨Ms ++ [M], Lr, R3, b3, b3 + b2, rfl, by first | rfl | rw [HWB.out] | rw [HW2.out, HWB.out], rfl, HNW.out.1, HNW.out.2⟩
              case measure => rw [intOf_of' HWB.out, intOf_nat, Int.toNat_natCast, Int.toNat_natCast]; exact HN3.out
            · have hle4 : ¬ (b3 : Int) ≤ (m : Int) := by omega
              obtain ⟨mm, hmm⟩ : ∃ mm, a3 + bs = mm := ⟨_, rfl⟩
              have HWA := Lib.hid (show wrap64 ((a3 : Int) + (bs : Int)) = (mm : Int) from wrap_add (by omega) (by omega))
              have hcase : (∃ L, Ls3 = [L]) ∨ Ls3 = [] := by
                cases Ls3 with
                | nil => exact .inr rfl
                | cons L1 Lr =>
                  have h1 := (hB3.ll L1 (by simp)).1
                  cases Lr with
                  | nil => exact .inl ⟨L1, rfl⟩
                  | cons L2 Lr =>
                    have h2 := (hB3.ll L2 (by simp)).1
                    simp only [List.flatten_cons, List.length_append] at hlen
                    omega
              have HOUT := Lib.hid (show ∀ w' R', PR W0 w' g n (Ms.flatten ++ R') → Stb (Ls3.flatten ++ R3) R' → Srt R' → R'.length = (Ls3.flatten ++ R3).length → Blk W0 w' g n m b2 xs [] Ms R' from fun w' R' h1 h2 h3 h4 => by
                rw [List.length_append] at h4
                refine ⟨by simpa using h1, ?_, by simp only [List.flatten_nil, List.length_nil]; omega, by simp, fun L hL => by have := hB3.lm L hL; exact ⟨by omega, this.2⟩, ?_, h3⟩
                · simp only [List.flatten_nil, List.nil_append]
                  exact hB3.stb.trans ((Stb.refl _).append h2)
                · rcases hcase with ⟨L, rfl⟩ | rfl
                  · have := (hB3.ll L (by simp)).1
                    simp only [List.flatten_cons, List.flatten_nil, List.length_append, List.length_nil] at h4
                    omega
                  · simp only [List.flatten_nil, List.length_nil] at h4
                    omega)
              have HNM := Lib.hid (show m - b2 < m - bs ∧ 20 ≤ b2 ∧ b2 ≤ 2000 from by have := HLT.out; omega)
              by_cases hml : mm < m
              · have hml2 : (mm : Int) < (m : Int) := by omega
                obtain ⟨L, rfl⟩ : ∃ L, Ls3 = [L] := by
                  rcases hcase with h | rfl
                  · exact h
                  · simp only [List.flatten_nil, List.length_nil] at hlen; omega
                obtain ⟨l1, s1⟩ := hB3.ll L (by simp)
                have hln2 : a3 + (bs + R3.length) = m := by simp only [List.flatten_cons, List.flatten_nil, List.length_append, List.length_nil] at hlen; omega
                have hpr := hB3.pr
                have hst := hB3.stb
                have e1 : Ms.flatten ++ ([L].flatten ++ R3) = Ms.flatten ++ (L ++ (R3 ++ [])) := by simp
                rw [e1] at hpr hst
                have HSYM := Lib.hid (sym_any W0 g n m c k HK.out.2.1 HK.out.2.2 hm1 _ wr a3 mm m Ms.flatten L R3 [] (Nat.le_refl _) hma (by omega) (by omega) (by simp) (by intro h; rw [h] at l1; simp at l1; omega) (by intro h; rw [h] at hln2; simp at hln2; omega) hpr (hst.hk HK.out.1) s1 hB3.rs)
                clear hB3 hab hma hbb hb20 hb2 hlen hrl hle3 l1 s1 hmm hln2 e1 hpr hst hm1 hcase hml
                have hw2 := HW2.out
                have hwa := HWA.out
                go_wp2_with fail
                clear hw2 hwa
                (try rw [HWA.out])
                refine HSYM.out.mono ?_
                rintro e w5 ⟨M, rfl, hp, hl5, hs, ho⟩
                have HNW := Lib.hid (HOUT.out _ M (by simpa using hp) (by simpa using hs) ho (by simpa using hl5))
                clear hp hl5 hs ho
                have hw3 := HW3.out
                go_wp2_with fail
                clear hw3
                go_roundw
                case rel => exact ⟨b2, Ms, M, by first | rfl | rw [HW3.out], HNM.out.2.1, HNM.out.2.2, HNW.out⟩
                case measure => first | (rw [intOf_nat, intOf_nat, Int.toNat_natCast, Int.toNat_natCast]; exact HNM.out.1) | (rw [intOf_of' HW3.out, intOf_nat, Int.toNat_natCast, Int.toNat_natCast]; exact HNM.out.1)
              · have hml2 : ¬ (mm : Int) < (m : Int) := by omega
                have hso : Srt (Ls3.flatten ++ R3) := by
                  rcases hcase with ⟨L, rfl⟩ | rfl
                  · obtain ⟨l1, s1⟩ := hB3.ll L (by simp)
                    have : R3 = [] := by
                      simp only [List.flatten_cons, List.flatten_nil, List.length_append, List.length_nil] at hlen
                      exact List.length_eq_zero_iff.1 (by omega)
                    rw [this]
                    simpa only [List.flatten_cons, List.flatten_nil, List.append_nil] using s1
                  · simpa only [List.flatten_nil, List.nil_append] using hB3.rs
                have HNW := Lib.hid (HOUT.out wr (Ls3.flatten ++ R3) hB3.pr (Stb.refl _) hso rfl)
                clear hB3 hab hma hbb hb20 hb2 hlen hrl hle3 hmm hm1 hcase hml hso
                have hw2 := HW2.out
                have hwa := HWA.out
                have hw3 := HW3.out
                go_wp2_with fail
                clear hw2 hwa hw3
                go_roundw
                case rel => exact ⟨b2, Ms, Ls3.flatten ++ R3, by first | rfl | rw [HW3.out], HNM.out.2.1, HNM.out.2.2, HNW.out⟩
                case measure => first | (rw [intOf_nat, intOf_nat, Int.toNat_natCast, Int.toNat_natCast]; exact HNM.out.1) | (rw [intOf_of' HW3.out, intOf_nat, Int.toNat_natCast, Int.toNat_natCast]; exact HNM.out.1)
        · have hlt2 : ¬ (bs : Int) < (m : Int) := by omega
          have HFIN := Lib.hid (show SortR W0 g n xs (.returned (.tuple #[])) wr from by
            have hlen := hB.len
            have hrl := hB.rl
            have hpr := hB.pr
            have hst := hB.stb
            simp only [List.flatten_nil, List.length_nil, List.nil_append] at hlen hpr hst
            refine ⟨Ls2.flatten ++ R2, rfl, hpr, by rw [List.length_append]; have := HD.out.1; omega, hst, ?_⟩
            cases Ls2 with
            | nil => simpa only [List.flatten_nil, List.nil_append] using hB.rs
            | cons L1 Lr =>
              obtain ⟨l1, s1⟩ := hB.ll L1 (by simp)
              cases Lr with
              | nil =>
                have : R2 = [] := by
                  simp only [List.flatten_cons, List.flatten_nil, List.length_append, List.length_nil] at hlen
                  exact List.length_eq_zero_iff.1 (by omega)
                rw [this]
                simpa only [List.flatten_cons, List.flatten_nil, List.append_nil] using s1
              | cons L2 Lr =>
                obtain ⟨l2, _⟩ := hB.ll L2 (by simp)
                simp only [List.flatten_cons, List.length_append] at hlen
                omega)
          clear hB hb20 hb2 hm1 hlt
          go_wp2_with fail
          go_end0
          exact HFIN.out
theorem sort_any : SortOk 1000 := by
  intro W0 w g n c k xs hl hne k1 k16 h hk
  have HI := Lib.hid (stc_any W0 w g n c k xs hl k1 k16 h hk)
  clear h hk hl hne k1 k16
  go_enter Tryz.func204, Tryz.ntmps204
  go_wp2_with fail
  refine HI.out.mono ?_
  rintro e w2 ⟨ys, rfl, h1, h2, h3, h4⟩
  have HF := Lib.hid (And.intro h1 (And.intro h2 (And.intro h3 h4)))
  clear h1 h2 h3 h4
  go_wp2_with fail
  go_end0
  exact ⟨ys, rfl, HF.out.1, HF.out.2.1, HF.out.2.2.1, HF.out.2.2.2⟩
end Go.Proofs.YtdkomhmciihkiaaGreat
/-! PkS -/
namespace Go.Proofs.YtdkomhmciihkiaaGreat
open Go.RowKit
set_option linter.unusedVariables false
set_option linter.unusedSimpArgs false

theorem caught_anyT (E : Nat) (w : World) :
    Calls Tryz.prog 84 #[.pointer (some ⟨E, 0, none⟩)] w fun e w' => e = .returned (.func (.func 143) #[] #[.pointer (some ⟨w.heap.size, 0, none⟩)]) ∧ Below w.heap.size w w' := by
  have hmf : ∀ (fn : Fn) (first cap : Array Value) (w : World), (Instr.makeFunc fn first cap).run Tryz.prog w = .ok (.func fn first cap) w := fun _ _ _ _ => rfl
  go_enter Tryz.func84, Tryz.ntmps84
  go_wp2_with fail
  go_ret
  exact ⟨rfl, (by repeat (first | exact Below.refl _ _ | assumption | (refine Below.drew ?_) | (refine below_drewN' ?_ _) | (refine below_alloc' ?_ _)))⟩
theorem caught1_nilT (b : Nat) (w : World) :
    Calls Tryz.prog 143 #[.nilIface, .pointer (some ⟨b, 0, none⟩)] w fun e w' => e = .returned (.tuple #[]) ∧ w' = w := by
  go_enter Tryz.func143, Tryz.ntmps143
  go_wp2_with fail
  go_end0
  exact ⟨rfl, rfl⟩
theorem deferred_idleT (E : Nat) (w : World) :
    CallsD Tryz.prog 83 #[.pointer (some ⟨E, 0, none⟩)] .returning w fun e u' w' => e = .returned (.tuple #[]) ∧ u' = .returning ∧ Below w.heap.size w w' := by
  refine callsD_of_wpS Tryz.func83 rfl fun c₀ cs hu => ?_
  apply wpS_region
  simp [wpOpsS, go_sem, recoverD, hu, Tryz.ntmps83, Exit.thenS]
  refine (caught_anyT E w).mono ?_
  rintro e w1 ⟨rfl, hb1⟩
  simp [wpOpsS, go_sem, invoke]
  refine (caught1_nilT _ w1).mono ?_
  rintro e w2 ⟨rfl, hw⟩
  obtain rfl := hw.symm
  cases c₀
  simp_all [bodyPostS, results, Tryz.results83]
theorem setCell_same1 {w : World} {b : Nat} {v : Value} {t : TypeId} {fr : Nat × Nat} (h : w.heap[b]? = some (.cells #[v] t fr)) : w.setCell ⟨b, 0, none⟩ v = w := by
  unfold World.setCell
  have e : w.heap.modify b (fun | .cells c elem frozen => .cells (if (none : Option Nat).isSome then c else c.setIfInBounds 0 v) elem frozen | o => o) = w.heap := by
    apply Array.ext_getElem?
    intro i
    rw [Array.getElem?_modify]
    split
    · rename_i hi
      subst hi
      rw [h]
      simp
    · rfl
  cases w
  simp only [World.mk.injEq, and_true, true_and]
  exact e
theorem OwnD.keepR {W w w' : World} {v : Value} {l : List En} {G : Nat} (h : OwnD (PtNew w) W w v l) (hG : ∃ c, w.heap[G]? = some (.cells c 143 (0, 0))) (hk : KeepR G w w') : OwnD (PtNew w') W w' v l := by
  obtain ⟨cG, hG⟩ := hG
  have h2 : OwnD (PtNew w') W w v l := h.mono fun u p hu => PtNew.keepR hu hG (by decide) hk
  obtain ⟨cs, ⟨h3, h4⟩, h5⟩ := h2
  refine ⟨cs, ⟨h3, ?_⟩, h5⟩
  rcases h4 with h4 | ⟨g, cap, cur, q1, q2, q3, q4⟩
  · exact .inl h4
  · exact .inr ⟨g, cap, cur, q1, q2, hk.1 g _ q3 (fun e => by subst e; exact ne_type hG q3 (by decide) rfl), q4⟩
theorem InvR.grownD {W w w' : World} {G : Nat} {rest : List Nat} {vl : Value} {last : Option (List Nat)} {row : Option Nat} (h : InvR W G rest vl last w) (hg : w.grownBy w' row) (hr : ∀ k, row = some k → W.heap.size ≤ k ∧ ∃ cur fr, w.heap[k]? = some (.cells cur 35 fr)) : InvR W G rest vl last w' := by
  obtain ⟨vb, h1, h2, h3, h4, h5⟩ := h
  have key : ∀ (b : Nat) (cur : Array Value) (t : TypeId) (fr : Nat × Nat), w.heap[b]? = some (.cells cur t fr) → t ≠ 35 → w'.heap[b]? = w.heap[b]? := fun b cur t fr hb ht => hg.block b (lt_of_block hb) (by
    intro e
    obtain ⟨_, cur', fr', hc⟩ := hr b e.symm
    exact ne_type hb hc ht rfl)
  refine ⟨vb, (key _ _ _ _ h1 (by decide)).trans h1, h2, ?_, h4.grown hg h4.size (fun k hk => (hr k hk).1), h5⟩
  cases last with
  | none => exact h3
  | some p => exact PtNew.keepBlock h3 fun b cur fr hb => key b cur _ fr hb (by decide)

set_option maxRecDepth 100000 in
set_option maxHeartbeats 4000000 in
theorem rdTree_any (w : World) (k : Nat) (l : List En) (vb : Value) (hv : RdB w vb (Pk.bytesE k l)) (h1 : 1 ≤ k) (h16 : k ≤ 16) (et : Et k l) (hn : l.length ≤ 60) (ov : ∀ e ∈ l, e.v < 2 ^ 64) :
    Calls Tryz.prog 29 #[vb] w fun e w' => MakR w k l e w' := by
  have hmf : ∀ (fn : Fn) (first cap : Array Value) (w : World), (Instr.makeFunc fn first cap).run Tryz.prog w = .ok (.func fn first cap) w := fun _ _ _ _ => rfl
  have HV := Lib.hid hv
  have HD := Lib.hid (And.intro h1 (And.intro h16 (And.intro et (And.intro hn ov))))
  have HMK := Lib.hid (fun W v (hv : RdE W v l) => make_any 1000 sort_any W k l v hv (by omega) (by omega) h1 h16 (fun e he => ⟨et.len e he, et.ok e he⟩) ov)
  rw [puts_id et] at HMK
  have hvs : ∃ A m c, vb = .slice A m c := let ⟨A, c, e, _⟩ := hv; ⟨A, _, c, e⟩
  obtain ⟨A, m, c, rfl⟩ := hvs
  clear hv h1 h16 hn et ov
  go_enter_defers Tryz.func29, Tryz.ntmps29
  go_wp2_with fail
  have a0 := heap_alloc_new w (.cells #[.int .i64 0] 25 (0, 0))
  have hbw : Below w.heap.size w (w.alloc (.cells #[.int .i64 0] 25 (0, 0))) := (by repeat (first | exact Below.refl _ _ | assumption | (refine Below.drew ?_) | (refine below_drewN' ?_ _) | (refine below_alloc' ?_ _)))
  have hsz : (w.alloc (.cells #[.int .i64 0] 25 (0, 0))).heap.size = w.heap.size + 1 := by simp
  obtain ⟨EB, hE⟩ : ∃ EB, w.heap.size = EB := ⟨_, rfl⟩
  have HEB := Lib.hid hE
  simp only [hE] at a0 hsz ⊢
  generalize w.alloc (.cells #[.int .i64 0] 25 (0, 0)) = w0 at *
  have HB0 := Lib.hid (show Below w.heap.size w w0 from hbw)
  have HLall := Lib.hid (show ∀ j (last : List Nat), (Pk.allE last (l.drop j)).length ≤ 11000 by
    intro j last
    have h1 := Pk.allE_length last (l.drop j) k (fun c hc => Nat.le_of_eq (HD.out.2.2.1.len c (List.mem_of_mem_drop hc)))
    have h2 := HD.out.2.1
    have h3 := HD.out.2.2.2.1
    have h4 : (l.drop j).length * (10 * k + 10) ≤ 60 * 170 := Nat.mul_le_mul (by rw [List.length_drop]; omega) (by omega)
    omega)
  refine (open_any w w0 72 (by decide) k l.length (Pk.allE (Pk.zeros k) l) _ HV.out HD.out.1 HD.out.2.1 (by have := HD.out.2.2.2.1; omega) (by have := HLall.out 0 (Pk.zeros k); rw [List.drop_zero] at this; omega) hbw).mono ?_
  rintro e w1 ⟨G, rfl, hI1, hG1, hkh1⟩
  have HN := Lib.hid (show EB ≠ G by omega)
  have b0 := Lib.hid (hkh1 _ _ a0)
  have HI1 := Lib.hid hI1
  clear a0 hbw hsz hG1 hkh1 hI1 hE
  go_wp2_with fail
  go_loopw [7, 8, 9, 18] (fun vo _ _ i wr => ∃ (j : Nat) (vl : Value), j ≤ l.length ∧ i = .int .u64 j ∧ wr.heap[EB]? = some (.cells #[.int .i64 0] 25 (0, 0)) ∧
    InvR w G (Pk.allE ((prevE l j).getD (Pk.zeros k)) (l.drop j)) vl (prevE l j) wr ∧ OwnD (PtNew wr) w wr vo (l.take j)) (fun _ _ _ i _ => l.length - (intOf i).toNat)
  case atStart => exact ⟨0, _, Nat.zero_le _, rfl, b0.out, HI1.out, OwnD.nil _ _ _⟩
  case round =>
    obtain ⟨j, vl, hj, rfl, hEc, hI, hown⟩ := hrel
    have HEc := Lib.hid hEc
    have HOwn := Lib.hid hown
    obtain ⟨A7, c7, e7⟩ := hown.shape
    have hlj : (l.take j).length = j := by rw [List.length_take]; omega
    rw [hlj] at e7
    subst e7
    have HLJ := Lib.hid hlj
    clear hlj
    by_cases hlt : j < l.length
    · have h3 : (j : Int) < (l.length : Int) := by omega
      rw [Pk.drop_allE hlt] at hI
      have hmem := List.getElem_mem hlt
      have hlen := HD.out.2.2.1.len _ hmem
      have HX := Lib.hid (And.intro hlen (And.intro (HD.out.2.2.1.ok _ hmem) (And.intro (HD.out.2.2.2.2 _ hmem) (prevE_facts HD.out.2.2.1 j hlt))))
      unfold Pk.oneE at hI
      rw [List.append_assoc] at hI
      have HI := Lib.hid hI
      have HPT := Lib.hid (rdPoint_any w wr G l[j].p (Pk.leb l[j].v ++ Pk.allE l[j].p (l.drop (j + 1))) vl (prevE l j) (by rw [hlen]; exact hI) (by rw [hlen]; exact HD.out.1) (by rw [hlen]; exact HD.out.2.1) HX.out.2.1 HX.out.2.2.2 (by have := HLall.out (j + 1) l[j].p; have := Pk.leb_length l[j].v; rw [List.length_append]; omega))
      rw [hlen] at HPT
      have HW := Lib.hid (show IntKind.u64.wrap ((j : Int) + 1) = ((j + 1 : Nat) : Int) by have := HD.out.2.2.2.1; unfold IntKind.wrap; simp [IntKind.bits, IntKind.signed]; omega)
      clear hI hmem hlen hEc hown
      go_wp2_with fail
      refine HPT.out.mono ?_
      rintro e w2 ⟨g, rfl, hp2, hi2, hk2⟩
      have HP2 := Lib.hid hp2
      have HI2 := Lib.hid hi2
      have HE2 := Lib.hid (hk2.1 _ _ HEc.out HN.out)
      have HO2 := Lib.hid (OwnD.keepR HOwn.out HI.out.block hk2)
      clear hp2 hi2 hk2 HPT
      go_wp2_with fail
      refine (rNumber_any w w2 G l[j].v _ _ _ HI2.out HX.out.2.2.1 (by have := HLall.out (j + 1) l[j].p; omega)).mono ?_
      rintro e w3 ⟨rfl, hi3, hk3⟩
      have HI3 := Lib.hid hi3
      have HE3 := Lib.hid (hk3.1 _ _ HE2.out HN.out)
      have HO3 := Lib.hid (OwnD.keepR HO2.out HI2.out.block hk3)
      have HP3 := Lib.hid (let ⟨_, h⟩ := HI2.out.block; PtNew.keepR HP2.out h (by decide) hk3)
      clear hi3 hk3
      go_wp2_with fail
      refine (rises_any w w3 G l[j].p _ vl _ _ HI3.out HP3.out (by rw [HX.out.1]; exact HD.out.1) (by rw [HX.out.1]; exact HD.out.2.1) HX.out.2.1 HX.out.2.2.2).mono ?_
      rintro e w4 ⟨rfl, hi4, hk4⟩
      have HI4 := Lib.hid hi4
      have HE4 := Lib.hid (hk4.1 _ _ HE3.out HN.out)
      have HO4 := Lib.hid (OwnD.keepR HO3.out HI3.out.block hk4)
      have HP4 := Lib.hid (let ⟨_, h⟩ := HI3.out.block; PtNew.keepR HP3.out h (by decide) hk4)
      clear hi4 hk4
      go_wp2_with ((at_builtin; refine wpList_append_D (Pt := PtNew (w4.alloc (.cells #[.slice (some ⟨g, 0, none⟩) k k, .int .u64 (l[j].v : Nat)] 35))) rfl (.tmp 28) (.tmp 32) rfl w (l.take j) l[j] (fun u p h => h.rd) ?_ ?_ ?_ ?_ ?_))
      · exact (show OwnD (PtNew (w4.alloc (.cells #[.slice (some ⟨g, 0, none⟩) k k, .int .u64 (l[j].v : Nat)] 35))) w (w4.alloc (.cells #[.slice (some ⟨g, 0, none⟩) k k, .int .u64 (l[j].v : Nat)] 35)) (.slice A7 j c7) (l.take j) from (HO4.out.alloc _).mono fun u p hu => hu.below (by repeat (first | exact Below.refl _ _ | (refine Below.drew ?_) | (refine below_drewN' ?_ _) | (refine below_alloc' ?_ _) | (refine Below.setCell ?_ (by first | exact Nat.le_refl _ | (simp; done) | (simp; omega)) _))))
      · exact ⟨_, _, _, rfl, by simp [go_sem], HP4.out.below (by repeat (first | exact Below.refl _ _ | (refine Below.drew ?_) | (refine below_drewN' ?_ _) | (refine below_alloc' ?_ _) | (refine Below.setCell ?_ (by first | exact Nat.le_refl _ | (simp; done) | (simp; omega)) _))), by simp [go_sem]⟩
      · have := HI4.out.bel.size; simp; omega
      · have := HD.out.2.2.2.1; have := HLJ.out; omega
      intro v5 w5 hown5 hgr5
      have ho4 : OwnD (PtNew (w4.alloc (.cells #[.slice (some ⟨g, 0, none⟩) k k, .int .u64 (l[j].v : Nat)] 35))) w (w4.alloc (.cells #[.slice (some ⟨g, 0, none⟩) k k, .int .u64 (l[j].v : Nat)] 35)) (.slice A7 j c7) (l.take j) := (HO4.out.alloc _).mono fun u p hu => hu.below (by repeat (first | exact Below.refl _ _ | (refine Below.drew ?_) | (refine below_drewN' ?_ _) | (refine below_alloc' ?_ _) | (refine Below.setCell ?_ (by first | exact Nat.le_refl _ | (simp; done) | (simp; omega)) _)))
      have hrow : ∀ q, (Value.slice A7 j c7).ownBlock = some q → w.heap.size ≤ q ∧ ∃ cur fr, (w4.alloc (.cells #[.slice (some ⟨g, 0, none⟩) k k, .int .u64 (l[j].v : Nat)] 35)).heap[q]? = some (.cells cur 35 fr) := fun q hq => let ⟨h1, cur, h2⟩ := ho4.block q hq; ⟨h1, cur, _, h2⟩
      have HI5 := Lib.hid ((HI4.out.below (w' := w4.alloc (.cells #[.slice (some ⟨g, 0, none⟩) k k, .int .u64 (l[j].v : Nat)] 35)) (by repeat (first | exact Below.refl _ _ | (refine Below.drew ?_) | (refine below_drewN' ?_ _) | (refine below_alloc' ?_ _) | (refine Below.setCell ?_ (by first | exact Nat.le_refl _ | (simp; done) | (simp; omega)) _)))).grownD hgr5 hrow)
      have he4 : (w4.alloc (.cells #[.slice (some ⟨g, 0, none⟩) k k, .int .u64 (l[j].v : Nat)] 35)).heap[EB]? = some (.cells #[.int .i64 0] 25 (0, 0)) := (Below.block (show Below w4.heap.size w4 _ from (by repeat (first | exact Below.refl _ _ | (refine Below.drew ?_) | (refine below_drewN' ?_ _) | (refine below_alloc' ?_ _) | (refine Below.setCell ?_ (by first | exact Nat.le_refl _ | (simp; done) | (simp; omega)) _)))) _ (lt_of_block HE4.out)).trans HE4.out
      have HE5 := Lib.hid ((hgr5.block EB (lt_of_block he4) (by
        intro e
        obtain ⟨_, cur', fr', hc⟩ := hrow EB e.symm
        exact ne_type he4 hc (by decide) rfl)).trans he4)
      have HO5 := Lib.hid (show OwnD (PtNew w5) w w5 v5 (l.take (j + 1)) from (by
        have h9 : OwnD (PtNew w5) w w5 v5 _ := hown5.mono fun u p hu => PtNew.grownD ho4 hgr5 u p hu
        first | exact h9 | (rw [List.take_succ_eq_append_getElem hlt]; exact h9)))
      clear hown5 hgr5 ho4 hrow he4
      go_wp2_with fail
      go_roundw
      case rel => exact ⟨j + 1, _, by omega, by rw [HW.out], HE5.out, by rw [prevE_succ l j hlt]; exact HI5.out, HO5.out⟩
      case measure => first | (rw [intOf_u HW.out, intOf_u rfl]; omega) | (rw [intOf_u rfl, intOf_u rfl]; omega)
    · obtain rfl : j = l.length := by omega
      have h3 : ¬ (l.length : Int) < (l.length : Int) := by omega
      rw [List.drop_of_length_le (Nat.le_refl _), show Pk.allE ((prevE l l.length).getD (Pk.zeros k)) [] = [] from rfl] at hI
      rw [List.take_length] at HOwn
      have HIb := Lib.hid hI.bel
      obtain ⟨vb, hGb, hrd, _⟩ := hI
      obtain ⟨kG, _, kGf⟩ := cells_of_two hGb
      have hlG := lt_of_block hGb
      obtain ⟨Ab, cb, rfl, _⟩ := hrd
      clear hGb hown hEc
      go_wp2_with fail
      refine (must_true 9 _).mono ?_
      rintro e w5 ⟨rfl, hw⟩
      obtain rfl := hw.symm
      clear hw
      go_wp2_with fail
      refine (HMK.out _ _ (HOwn.out.rd fun u p h => h.rd)).mono ?_
      rintro e w6 ⟨t, rfl, ht, hb6⟩
      have HT := Lib.hid ht
      have bE := (hb6.block _ (lt_of_block HEc.out)).trans HEc.out
      have HBE := Lib.hid bE
      have kE : w6.cell? ⟨EB, 0, none⟩ = some (.int .i64 0) := by simp [World.cell?, bE]
      have kEf : w6.frozen? ⟨EB, 0, none⟩ = false := by simp [World.frozen?, bE]
      have hlE := lt_of_block bE
      have HB6 := Lib.hid (HIb.out.trans (hb6.mono HIb.out.size))
      clear ht hb6 bE kG kGf hlG
      go_wp2_with fail
      have hbf : Below w.heap.size w (w6.setCell ⟨EB, 0, none⟩ (.int .i64 0)) := HB6.out.setCell (Nat.le_of_eq HEB.out) _
      have hs : w6.setCell ⟨EB, 0, none⟩ (.int .i64 0) = w6 := setCell_same1 HBE.out
      rw [hs] at hbf ⊢
      refine leaves_cons (f := 83) (args := #[.pointer (some ⟨EB, 0, none⟩)]) (by simp) (by simp [go_sem]) ?_
      refine (deferred_idleT EB w6).mono ?_
      rintro e u' w'' ⟨rfl, rfl, hbl⟩
      have t3 := Below.keeps hbl _ _ kE
      have s3 : EB < w''.heap.size := Nat.lt_of_lt_of_le hlE hbl.size
      exact ⟨.tuple #[.pointer (some ⟨t, 0, none⟩), .int .i64 0], by simp [results, Tryz.results29, go_sem, t3, s3], _, rfl, HT.out.bel hbl, hbf.trans (hbl.mono hbf.size)⟩
end Go.Proofs.YtdkomhmciihkiaaGreat
/-! OpenC -/
namespace Go.Proofs.YtdkomhmciihkiaaGreat
open Go.RowKit Go.ChangeShapes Go.WideShapes Go.Deep
set_option linter.unusedVariables false

section
variable {H : Type} {enc : TypeId × Value → H} {P : Program} {w : World} {base : Nat} {spare : Nat → Bool} {held : Bool}
theorem open_slice_fields {t e : TypeId} {fs : Array Field} {fuel : Nat} {cs : List Value} {x : DataW H × List MemPlace} (ht : P.underlying t = some (.slice e)) (he : P.underlying e = some (.struct fs))
    (hone : oneCellFields P fs = true) (hC : P.cellsOf e = fs.size) (h : DataW.trod enc P w base spare held fuel t cs = some x) :
    (cs = [.slice none 0 0]) ∨
    ∃ (a : Addr) (len cap m : Nat), cs = [.slice (some a) len cap] ∧ len ≤ cap ∧ cap ≤ maxLen ∧ m = (if spare a.block then cap else len) ∧
      ∀ i, i < m → ∀ (j : Nat) (f : Field), fs[j]? = some f → ∃ (v : Value) (y : DataW H × List MemPlace) (n : Nat), w.cell? (a.add (i * fs.size + j)) = some v ∧ DataW.trod enc P w base spare held n f.type [v] = some y := by
  rcases open_slice ht h with h0 | ⟨a, len, cap, m, n, D, Pl, hcs, hb, hl, hm, hmm, hx, hi⟩
  · exact .inl h0.1
  · refine .inr ⟨a, len, cap, m, hcs, hl, hm, hmm, fun i him => ?_⟩
    obtain ⟨cs', hc, ht'⟩ := hi i him
    rw [hC] at hc
    obtain ⟨ys, n', hn', hy, hlen, hyl, hf⟩ := DataW.trod_struct he ht'
    obtain ⟨_, hcl, hat⟩ := World.cells?_some hc
    intro j f hj
    obtain ⟨ho, hk⟩ := hone_of hone j f hj
    have hjl : j < fs.size := (Array.getElem?_eq_some_iff.1 hj).1
    have hcell := hat j hjl
    have hv : cs'[j]? = some (cs'[j]'(by omega)) := List.getElem?_eq_getElem (by omega)
    have h1 := hf j f hj
    rw [ho, hk] at h1
    have hone' : (cs'.drop j).take 1 = [cs'[j]'(by omega)] := by
      rw [List.drop_eq_getElem_cons (by omega)]
      rfl
    rw [hone'] at h1
    have hys : ys[j]? = some (ys[j]'(by omega)) := List.getElem?_eq_getElem (by omega)
    refine ⟨_, _, n', ?_, h1.trans hys⟩
    rw [← Go.Deep.add_add, hcell, hv]
end
theorem spot_none {w : World} {a : Addr} {v : Value} (h : w.cell? a = some v) : ∃ b o, a = ⟨b, o, none⟩ := by
  obtain ⟨b, o, sp⟩ := a
  cases sp with
  | none => exact ⟨b, o, rfl⟩
  | some q => simp [World.cell?] at h; split at h <;> cases h
theorem add_plain (b o j : Nat) : (⟨b, o, none⟩ : Addr).add j = ⟨b, o + j, none⟩ := by
  unfold Addr.add; split
  · rename_i h; subst h; rfl
  · rfl
theorem pti_toNat {xs : List Int} (h : ∀ x ∈ xs, 0 ≤ x ∧ x ≤ 18446744073709551615) : pti (xs.map Int.toNat) = xs := by
  unfold pti
  rw [List.map_map]
  conv => rhs; rw [← List.map_id xs]
  apply List.map_congr_left
  intro x hx
  have := h x hx
  simp only [Function.comp_apply, id]
  omega
instance : Inhabited Ch := ⟨⟨[], false, false, 0, 0⟩⟩
end Go.Proofs.YtdkomhmciihkiaaGreat
/-! OpenA -/
namespace Go.Proofs.YtdkomhmciihkiaaGreat
open Go.RowKit Go.ChangeShapes Go.WideShapes Go.Deep
set_option linter.unusedVariables false

/-- an act's numbers, whatever its point's length -/
def Ac.OkV (a : Ac) : Prop := (∀ c ∈ a.p, c < 2 ^ 64) ∧ a.v < 2 ^ 64
theorem open_acts {H : Type} {enc : TypeId × Value → H} {W : World} {base : Nat} {held : Bool} {v : Value} {x : DataW H × List MemPlace} {fuel : Nat}
    (h : DataW.trod enc Tryz.prog W base (fun _ => true) held fuel 42 [v] = some x) :
    ∃ l, RdA W v l ∧ (∀ c ∈ l, Ac.OkV c) ∧ l.length ≤ maxLen ∧ ∃ A n c, v = .slice A n c ∧ n ≤ c ∧ c ≤ maxLen ∧ (0 < c → ∃ b o, A = some ⟨b, o, none⟩) := by
  have hu : ∃ fs, Tryz.prog.underlying 120 = some (.struct fs) ∧ fs.size = 3 ∧ (fs[0]?.map (·.type) = some 4) ∧ (fs[1]?.map (·.type) = some 33) ∧ (fs[2]?.map (·.type) = some 22) ∧ oneCellFields Tryz.prog fs = true ∧ Tryz.prog.cellsOf 120 = fs.size :=
    ⟨_, Tryz.underlying120, by kernel_rfl, by kernel_rfl, by kernel_rfl, by kernel_rfl, by kernel_rfl, by kernel_rfl⟩
  obtain ⟨fs, he, hs, t0, t1, t2, hone, hC⟩ := hu
  rcases open_slice_fields Tryz.underlying42 he hone hC h with h0 | ⟨a, len, cap, m, hcs, hl, hm, hmm, hf⟩
  · simp only [List.cons.injEq, and_true] at h0
    subst h0
    exact ⟨[], ⟨none, 0, rfl, fun h => absurd h (by simp)⟩, fun c hc => by simp at hc, by simp [maxLen], none, 0, 0, rfl, Nat.le_refl _, Nat.zero_le _, fun h => absurd h (by omega)⟩
  · simp only [List.cons.injEq, and_true] at hcs
    subst hcs
    have hlm : len ≤ m := by rw [hmm]; split <;> omega
    rw [hs] at hf
    have hmc : m = cap := by rw [hmm]; rfl
    have hab : 0 < cap → ∃ b o, a = ⟨b, o, none⟩ := by
      intro h0
      obtain ⟨f0, q0, r0⟩ := Option.map_eq_some_iff.1 t0
      obtain ⟨v0, y0, n0, c0, d0⟩ := hf 0 (by omega) 0 f0 q0
      exact spot_none (by simpa [Addr.add] using c0)
    have each : ∀ i, i < len → ∃ c, (Ac.OkV c) ∧ ∃ b o, a = ⟨b, o, none⟩ ∧ AcAt W b (o + i * 3) c := by
      intro i hi
      have hfi := hf i (by omega)
      obtain ⟨f0, q0, r0⟩ := Option.map_eq_some_iff.1 t0
      obtain ⟨f1, q1, r1⟩ := Option.map_eq_some_iff.1 t1
      obtain ⟨f2, q2, r2⟩ := Option.map_eq_some_iff.1 t2
      obtain ⟨v0, y0, n0, c0, d0⟩ := hfi 0 f0 q0
      obtain ⟨v1, y1, n1, c1, d1⟩ := hfi 1 f1 q1
      obtain ⟨v2, y2, n2, c2, d2⟩ := hfi 2 f2 q2
      rw [r0] at d0; rw [r1] at d1; rw [r2] at d2
      obtain ⟨b, o, ha⟩ := hab (by omega)
      subst ha
      rw [add_plain] at c0 c1 c2
      obtain ⟨b0, e0, _⟩ := DataW.trod_bool Tryz.underlying4 d0
      obtain ⟨i2, e2, _, w2⟩ := DataW.trod_int Tryz.underlying22 d2
      simp only [List.cons.injEq, and_true] at e0 e2
      subst e0 e2
      have hp1 : ∃ xs : List Int, (∀ x ∈ xs, 0 ≤ x ∧ x ≤ 18446744073709551615) ∧ RdU W v1 xs := by
        rcases open_ints Tryz.underlying33 Tryz.underlying22 (by kernel_rfl) d1 with ⟨hcs, _⟩ | ⟨x, l, c, zs, hcs, _, hl, hm, hz, _, hcell, hwz⟩
        · simp only [List.cons.injEq, and_true] at hcs
          subst hcs
          exact ⟨[], fun x hx => by simp at hx, RdU.nil _ _ _⟩
        · simp only [List.cons.injEq, and_true] at hcs
          subst hcs
          obtain ⟨xs, _, _, h3, h4⟩ := RdU.of_row (w := W) (a := some x) (len := l) (cap := c) (zs := zs) (.inr ⟨_, rfl, hl, hm, by simpa using hz, hcell, hwz⟩)
          exact ⟨xs, h3, h4⟩
      obtain ⟨xs1, hx1, hv1⟩ := hp1
      have ho1 : ∀ y ∈ xs1.map Int.toNat, y < 2 ^ 64 := fun y hy => by
        simp only [List.mem_map] at hy
        obtain ⟨z, hz, rfl⟩ := hy
        have := hx1 z hz
        omega
      have g2 := bounds_u64 w2
      refine ⟨(⟨b0, xs1.map Int.toNat, i2.toNat⟩ : Ac), ⟨ho1, by show i2.toNat < 2 ^ 64; omega⟩, b, o, rfl, ?_⟩
      have z0 : W.cell? ⟨b, o + i * 3, none⟩ = some (.bool b0) := by simpa [Nat.add_assoc] using c0
      have z1 : W.cell? ⟨b, o + i * 3 + 1, none⟩ = some v1 := by simpa [Nat.add_assoc] using c1
      have y1' : RdU W v1 (pti (xs1.map Int.toNat)) := by rw [pti_toNat hx1]; exact hv1
      have z2 : W.cell? ⟨b, o + i * 3 + 2, none⟩ = some (.int .u64 (i2.toNat : Nat)) := by rw [show ((i2.toNat : Nat) : Int) = i2 by omega]; simpa [Nat.add_assoc] using c2
      exact ⟨v1, z0, by simpa [Nat.add_assoc] using z1, y1', by simpa [Nat.add_assoc] using z2⟩
    obtain ⟨f, hF⟩ := choose_lt each
    refine ⟨(List.range len).map f, ⟨some a, cap, by simp, fun hp => ?_⟩, ?_, by simp; omega, some a, len, cap, rfl, hl, hm, fun h => ?_⟩
    · have hp' : 0 < len := by simpa using hp
      obtain ⟨_, b, o, ha, _⟩ := hF 0 hp'
      refine ⟨b, o, by rw [ha], fun j hj => ?_⟩
      obtain ⟨_, b', o', ha', hc⟩ := hF j (by simpa using hj)
      rw [ha] at ha'
      injection ha' with e1 e2
      subst e1 e2
      simpa using hc
    · intro c hc
      simp only [List.mem_map, List.mem_range] at hc
      obtain ⟨j, hj, rfl⟩ := hc
      exact (hF j hj).1
    · obtain ⟨b, o, ha⟩ := hab h
      exact ⟨b, o, by rw [ha]⟩
end Go.Proofs.YtdkomhmciihkiaaGreat
/-! LawPackT -/
namespace Go.Proofs.YtdkomhmciihkiaaGreat
open Go.RowKit
set_option linter.unusedVariables false
set_option linter.unusedSimpArgs false
set_option maxRecDepth 100000

def Pk.u8 (bs : List Nat) : List UInt8 := bs.map UInt8.ofNat
theorem Pk.u8_back (bs : List Nat) (h : ∀ b ∈ bs, b < 256) : (Pk.u8 bs).map UInt8.toNat = bs := by
  unfold Pk.u8
  rw [List.map_map]
  conv => rhs; rw [← List.map_id bs]
  refine List.map_congr_left fun b hb => ?_
  have := h b hb
  simp only [Function.comp_apply, id]
  rw [UInt8.toNat_ofNat']
  omega
theorem TrR.vals {w : World} {t k : Nat} {l : List En} (ht : TrR w t k l) : ∀ e ∈ l, e.v < 2 ^ 64 := by
  obtain ⟨r, _, hr⟩ := ht.c1
  cases r with
  | none => obtain rfl : l = [] := hr; simp
  | some b => exact Nd.vals hr
theorem heavyA_okT {l : List Ac} {most : Nat} (h : heavyL l most = false) : l.length ≤ most ∧ ∀ a ∈ l, a.p.length ≤ 40 := by
  unfold heavyL at h
  rw [Bool.or_eq_false_iff] at h
  refine ⟨by have := of_decide_eq_false h.1; omega, fun a ha => ?_⟩
  have := List.any_eq_false.1 h.2 a ha
  simp at this
  omega
set_option maxHeartbeats 8000000 in
theorem packTrees_any (w : World) (k : Int) (acts : List Ac) (vl : Value) (hl : RdA w vl acts) (hlo : ∀ a ∈ acts, a.OkV) (hll : acts.length ≤ maxLen) :
    Calls Tryz.prog 5 #[.int .i64 k, vl] w fun e w' => e = .returned (.bool true) ∧ Below w.heap.size w w' := by
  have HH1 := Lib.hid (fun w' (hb : Below w.heap.size w w') => heavyA_any w' acts vl 40 (hl.below hb) hll)
  have HV := Lib.hid (And.intro hl hlo)
  obtain ⟨A1, q1, rfl, z1⟩ := hl
  clear z1 hlo hll
  obtain ⟨h1, hh1⟩ : ∃ b, heavyL acts 40 = b := ⟨_, rfl⟩
  rw [hh1] at HH1
  have HHH := Lib.hid hh1
  clear hh1
  cases h1 with
  | true =>
    go_enter Tryz.func5, Tryz.ntmps5
    go_wp2_with fail
    refine (awake19_any _).mono ?_
    rintro e w1 ⟨rfl, hb1⟩
    have HB := Lib.hid hb1
    clear hb1
    go_wp2_with fail
    refine (HH1.out _ HB.out).mono ?_
    rintro e w2 ⟨rfl, hw⟩
    obtain rfl := hw.symm
    clear hw
    go_wp2_with fail
    go_ret
    exact ⟨rfl, HB.out⟩
  | false =>
    by_cases g1 : k < 1
    · go_enter Tryz.func5, Tryz.ntmps5
      go_wp2_with fail
      refine (awake19_any _).mono ?_
      rintro e w1 ⟨rfl, hb1⟩
      have HB := Lib.hid hb1
      clear hb1
      go_wp2_with fail
      refine (HH1.out _ HB.out).mono ?_
      rintro e w2 ⟨rfl, hw⟩
      obtain rfl := hw.symm
      clear hw
      go_wp2_with fail
      go_ret
      exact ⟨rfl, HB.out⟩
    · by_cases g2 : k > 16
      · go_enter Tryz.func5, Tryz.ntmps5
        go_wp2_with fail
        refine (awake19_any _).mono ?_
        rintro e w1 ⟨rfl, hb1⟩
        have HB := Lib.hid hb1
        clear hb1
        go_wp2_with fail
        refine (HH1.out _ HB.out).mono ?_
        rintro e w2 ⟨rfl, hw⟩
        obtain rfl := hw.symm
        clear hw
        go_wp2_with fail
        go_ret
        exact ⟨rfl, HB.out⟩
      · obtain ⟨n, rfl⟩ : ∃ n : Nat, k = n := ⟨k.toNat, by omega⟩
        have o1 := heavyA_okT HHH.out
        have n1 : 1 ≤ n := by omega
        have n16 : n ≤ 16 := by omega
        have l40 : acts.length ≤ 40 := o1.1
        have ok1 : ∀ a ∈ acts, a.Ok := fun a ha => ⟨o1.2 a ha, (HV.out.2 a ha).1, (HV.out.2 a ha).2⟩
        have HG1 := Lib.hid (fun W (hb : Below w.heap.size w W) => grown_any W n acts _ n1 n16 (HV.out.1.below hb) ok1 (by omega))
        have hinl : (playL n [] acts).length ≤ 40 := by have := play_len n [] acts; simp at this; omega
        have hets : EtS n (playL n [] acts) := EtS.play ⟨Et.nil n, by omega, by simp⟩ acts ok1 (by simp; omega)
        generalize playL n [] acts = l at *
        have HLE := Lib.hid (And.intro hinl (And.intro hets (And.intro n1 n16)))
        clear o1 n1 n16 l40 ok1 hinl hets
        go_enter Tryz.func5, Tryz.ntmps5
        go_wp2_with fail
        refine (awake19_any _).mono ?_
        rintro e w1 ⟨rfl, hb1⟩
        have HB := Lib.hid hb1
        clear hb1
        go_wp2_with fail
        refine (HH1.out _ HB.out).mono ?_
        rintro e w2 ⟨rfl, hw⟩
        obtain rfl := hw.symm
        clear hw
        go_wp2_with fail
        refine (HG1.out _ HB.out).mono ?_
        rintro e w2 ⟨t, va, rfl, ht, hva, hb2⟩
        have HB2 := Lib.hid (HB.out.trans (hb2.mono HB.out.size))
        have HT2 := Lib.hid ht
        have HV2 := Lib.hid hva
        have HBy := Lib.hid (Pk.bytesE_byte n l (by have := HLE.out.2.2.2; omega) (by have := HLE.out.1; omega) (fun e he => ⟨HLE.out.2.1.et.ok e he, ht.vals e he⟩))
        have HVL := Lib.hid ht.vals
        obtain ⟨Am, cm, rfl, _⟩ := hva
        clear ht hb2
        obtain ⟨m4, hq4⟩ : ∃ q, l.length = q := ⟨_, rfl⟩
        rw [hq4] at HV2 ⊢
        clear hq4
        go_wp2_with fail
        refine (ptree_any _ t n l HT2.out (by have := HLE.out.1; omega)).mono ?_
        rintro e w3 ⟨AB, cB, rfl, hrb, hb3⟩
        have HRb3 := Lib.hid hrb
        have HB3 := Lib.hid hb3
        clear hrb hb3
        go_wp2_with fail
        refine (rdTree_any _ n l _ HRb3.out HLE.out.2.2.1 HLE.out.2.2.2 HLE.out.2.1.et (by have := HLE.out.1; omega) HVL.out).mono ?_
        rintro e w4 ⟨u, rfl, hu, hb4⟩
        have HT4 := Lib.hid hu
        have HB4 := Lib.hid (HB3.out.trans (hb4.mono HB3.out.size))
        have HRb4 := Lib.hid (HRb3.out.below hb4)
        clear hu hb4
        go_wp2_with fail
        refine (ptree_nil _).mono ?_
        rintro e wr ⟨rfl, hb5⟩
        have HB5 := Lib.hid (HB2.out.trans ((HB4.out.trans (hb5.mono HB4.out.size)).mono HB2.out.size))
        have HZ := Lib.hid (Below.refl wr.heap.size wr)
        have HRb := Lib.hid (show ∀ wz, Below wr.heap.size wr wz → RdB wz (.slice AB (Pk.bytesE n l).length cB) ((Pk.u8 (Pk.bytesE n l)).map UInt8.toNat) from fun wz hz => by
          rw [Pk.u8_back _ HBy.out]; exact (HRb4.out.below hb5).below hz)
        have HVr := Lib.hid (HV2.out.below (HB4.out.trans (hb5.mono HB4.out.size)))
        have HRf := Lib.hid (fun (wz : World) (hz : Below wr.heap.size wr wz) => rTree_any n l (.slice Am m4 cm) wz (HVr.out.below hz) HLE.out.2.1.et ⟨HLE.out.2.2.1, HLE.out.2.2.2⟩ (by have := HLE.out.1; omega) HVL.out)
        have HTr := Lib.hid (HT4.out.bel hb5)
        have HIs := Lib.hid (fun (wz : World) (hz : Below wr.heap.size wr wz) => is07_any wz u n l (.slice Am m4 cm) (HTr.out.bel hz) (HVr.out.below hz) HLE.out.2.1)
        clear hb5
        go_wp2_with fail
        refine wp_region_vals 25 [fun z9 _ => z9 = .int .i64 0,
          fun z9 _ => z9 = .bool true,
          fun z9 _ => z9 = .bool true,
          fun z9 _ => z9 = .slice AB (Pk.bytesE n l).length cB,
          fun v9 w9 => v9 = .string ⟨(Pk.u8 (Pk.bytesE n l)).toArray⟩,
          fun z9 _ => z9 = .int .i64 (n : Nat),
          fun z9 _ => z9 = .slice Am m4 cm,
          fun v9 w9 => ∃ A9 n9 c9, v9 = .slice A9 n9 c9 ∧ RdB w9 (.slice A9 n9 c9) (Pk.bytesE n l),
          fun v9 w9 => v9 = .string ⟨(Pk.u8 (Pk.bytesE n l)).toArray⟩,
          fun v9 w9 => v9 = .bool true,
          fun v9 w9 => v9 = .bool true,
          fun v9 w9 => v9 = .bool true,
          fun z9 _ => z9 = .int .i64 0,
          fun z9 _ => z9 = .bool true,
          fun v9 w9 => v9 = .bool true,
          fun v9 w9 => v9 = .bool true,
          fun z9 _ => z9 = .pointer (some ⟨u, 0, none⟩),
          fun z9 _ => z9 = .int .i64 (n : Nat),
          fun z9 _ => z9 = .slice Am m4 cm,
          fun v9 w9 => v9 = .bool true,
          fun v9 w9 => v9 = .bool true,
          fun v9 w9 => v9 = .bool true,
          fun z9 _ => z9 = .int .i64 1,
          fun z9 _ => z9 = .bool true,
          fun v9 w9 => v9 = .bool true]
          (by kernel_rfl) (by kernel_rfl) (by kernel_rfl) (by kernel_rfl) ?_ ?_ ?_
        · intro V hV v w1 w2 h hb
          simp only [List.mem_cons, List.not_mem_nil, or_false] at hV
          rcases hV with rfl | rfl | rfl | rfl | rfl | rfl | rfl | rfl | rfl | rfl | rfl | rfl | rfl | rfl | rfl | rfl | rfl | rfl | rfl | rfl | rfl | rfl | rfl | rfl | rfl
          all_goals first | exact h | ((obtain ⟨A9, n9, c9, e9, h9⟩ := h; exact ⟨A9, n9, c9, e9, h9.below hb⟩))
        · intro iq oq hiq hoq
          match iq, hiq with
          | 0, _ =>
          obtain rfl := Option.some.inj hoq
          intro a1 w1 K hk hK
          have e9 : a1.tmps.getD 9 undef = .int .i64 0 := hk.same 9 (by simp)
          simp [Region.wanted, Oper.wp, Act.eval, go_sem, e9]
          exact hK _ _ (Below.refl _ _) rfl
          | 1, _ =>
          obtain rfl := Option.some.inj hoq
          intro a1 w1 K hk hK
          have d49 : a1.tmps.getD 49 undef = .int .i64 0 := hk.deps ⟨0, .data⟩ (by simp) rfl _ _ rfl rfl
          simp [Region.wanted, Oper.wp, Act.eval, go_sem, d49]
          exact hK _ _ (Below.refl _ _) rfl
          | 2, _ =>
          obtain rfl := Option.some.inj hoq
          intro a1 w1 K hk hK
          have d50 : a1.tmps.getD 50 undef = .bool true := hk.deps ⟨1, .data⟩ (by simp) rfl _ _ rfl rfl
          simp [Region.wanted, Oper.wp, Act.eval, go_sem, d50]
          exact hK _ _ (Below.refl _ _) rfl
          | 3, _ =>
          obtain rfl := Option.some.inj hoq
          intro a1 w1 K hk hK
          have e8 : a1.tmps.getD 8 undef = .slice AB (Pk.bytesE n l).length cB := hk.same 8 (by simp)
          have gd : a1.tmps[51]? = some (.bool true) := getD_bool (hk.deps ⟨2, .guard⟩ (by simp) rfl _ _ rfl rfl)
          simp [Region.wanted, Oper.wp, Act.eval, go_sem, e8, gd, yielded]
          exact hK _ _ (Below.refl _ _) rfl
          | 4, _ =>
          obtain rfl := Option.some.inj hoq
          intro a1 w1 K hk hK
          have d52 : a1.tmps.getD 52 undef = .slice AB (Pk.bytesE n l).length cB := hk.deps ⟨3, .data⟩ (by simp) rfl _ _ rfl rfl
          have gd : a1.tmps[51]? = some (.bool true) := getD_bool (hk.deps ⟨2, .guard⟩ (by simp) rfl _ _ rfl rfl)
          have hcv := conv_str (Pk.u8 (Pk.bytesE n l)) (HRb.out w1 (below_trans (by repeat (first | exact HZ.out | (refine Below.drew ?_) | (refine below_drewN' ?_ _) | (refine below_alloc' ?_ _) | (refine Below.setCell ?_ (by first | exact Nat.le_refl _ | (have := HZ.out.size; simp; omega) | (have := HZ.out.size; omega)) _))) hk.ext))
          simp [Region.wanted, yielded, gd, Oper.wp, Act.eval, go_sem, d52, hcv]
          exact hK _ _ (Below.refl _ _) rfl
          | 5, _ =>
          obtain rfl := Option.some.inj hoq
          intro a1 w1 K hk hK
          have e0 : a1.tmps.getD 0 undef = .int .i64 (n : Nat) := hk.same 0 (by simp)
          have gd : a1.tmps[51]? = some (.bool true) := getD_bool (hk.deps ⟨2, .guard⟩ (by simp) rfl _ _ rfl rfl)
          simp [Region.wanted, Oper.wp, Act.eval, go_sem, e0, gd, yielded]
          exact hK _ _ (Below.refl _ _) rfl
          | 6, _ =>
          obtain rfl := Option.some.inj hoq
          intro a1 w1 K hk hK
          have e6 : a1.tmps.getD 6 undef = .slice Am m4 cm := hk.same 6 (by simp)
          have gd : a1.tmps[51]? = some (.bool true) := getD_bool (hk.deps ⟨2, .guard⟩ (by simp) rfl _ _ rfl rfl)
          simp [Region.wanted, Oper.wp, Act.eval, go_sem, e6, gd, yielded]
          exact hK _ _ (Below.refl _ _) rfl
          | 7, _ =>
          obtain rfl := Option.some.inj hoq
          intro a1 w1 K hk hK
          have d54 : a1.tmps.getD 54 undef = .int .i64 (n : Nat) := hk.deps ⟨5, .data⟩ (by simp) rfl _ _ rfl rfl
          have d55 : a1.tmps.getD 55 undef = .slice Am m4 cm := hk.deps ⟨6, .data⟩ (by simp) rfl _ _ rfl rfl
          have gd : a1.tmps[51]? = some (.bool true) := getD_bool (hk.deps ⟨2, .guard⟩ (by simp) rfl _ _ rfl rfl)
          simp [Region.wanted, Oper.wp, Act.eval, go_sem, d54, d55, gd, yielded]
          refine (HRf.out w1 (below_trans (by repeat (first | exact HZ.out | (refine Below.drew ?_) | (refine below_drewN' ?_ _) | (refine below_alloc' ?_ _) | (refine Below.setCell ?_ (by first | exact Nat.le_refl _ | (have := HZ.out.size; simp; omega) | (have := HZ.out.size; omega)) _))) hk.ext)).mono ?_
          rintro e w2 ⟨v9, rfl, hr9, hb9⟩
          obtain ⟨A9, c9, e9, h9⟩ := hr9
          exact hK _ _ hb9 ⟨A9, _, c9, e9, e9 ▸ ⟨A9, c9, e9, h9⟩⟩
          | 8, _ =>
          obtain rfl := Option.some.inj hoq
          intro a1 w1 K hk hK
          have D56 : ∃ A9 n9 c9, (a1.tmps.getD 56 undef) = .slice A9 n9 c9 ∧ RdB w1 (.slice A9 n9 c9) (Pk.bytesE n l) := hk.deps ⟨7, .data⟩ (by simp) rfl _ _ rfl rfl
          have gd : a1.tmps[51]? = some (.bool true) := getD_bool (hk.deps ⟨2, .guard⟩ (by simp) rfl _ _ rfl rfl)
          obtain ⟨A9, n9, c9, D56e, hr9⟩ := D56
          have hcv := conv_str (Pk.u8 (Pk.bytesE n l)) (v := .slice A9 n9 c9) (w := w1) (by rw [Pk.u8_back _ HBy.out]; exact hr9)
          simp [Region.wanted, yielded, gd, Oper.wp, Act.eval, go_sem, D56e, hcv]
          exact hK _ _ (Below.refl _ _) rfl
          | 9, _ =>
          obtain rfl := Option.some.inj hoq
          intro a1 w1 K hk hK
          have D53 : (a1.tmps.getD 53 undef) = .string ⟨(Pk.u8 (Pk.bytesE n l)).toArray⟩ := hk.deps ⟨4, .data⟩ (by simp) rfl _ _ rfl rfl
          have D57 : (a1.tmps.getD 57 undef) = .string ⟨(Pk.u8 (Pk.bytesE n l)).toArray⟩ := hk.deps ⟨8, .data⟩ (by simp) rfl _ _ rfl rfl
          have gd : a1.tmps[51]? = some (.bool true) := getD_bool (hk.deps ⟨2, .guard⟩ (by simp) rfl _ _ rfl rfl)
          simp [Region.wanted, yielded, gd, Oper.wp, Act.eval, go_sem, D53, D57]
          exact hK _ _ (Below.refl _ _) rfl
          | 10, _ =>
          obtain rfl := Option.some.inj hoq
          intro a1 w1 K hk hK
          have d51 : a1.tmps.getD 51 undef = .bool true := hk.deps ⟨2, .data⟩ (by simp) rfl _ _ rfl rfl
          have D58 : (a1.tmps.getD 58 undef) = .bool true := hk.deps ⟨9, .data⟩ (by simp) rfl _ _ rfl rfl
          simp [Region.wanted, Oper.wp, Act.eval, go_sem, d51, D58]
          exact hK _ _ (Below.refl _ _) rfl
          | 11, _ =>
          obtain rfl := Option.some.inj hoq
          intro a1 w1 K hk hK
          have D59 : (a1.tmps.getD 59 undef) = .bool true := hk.deps ⟨10, .data⟩ (by simp) rfl _ _ rfl rfl
          simp [Region.wanted, Oper.wp, Act.eval, go_sem, D59]
          exact hK _ _ (Below.refl _ _) rfl
          | 12, _ =>
          obtain rfl := Option.some.inj hoq
          intro a1 w1 K hk hK
          have e11 : a1.tmps.getD 11 undef = .int .i64 0 := hk.same 11 (by simp)
          have gd : a1.tmps[60]? = some (.bool true) := getD_bool (hk.deps ⟨11, .guard⟩ (by simp) rfl _ _ rfl rfl)
          simp [Region.wanted, Oper.wp, Act.eval, go_sem, e11, gd, yielded]
          exact hK _ _ (Below.refl _ _) rfl
          | 13, _ =>
          obtain rfl := Option.some.inj hoq
          intro a1 w1 K hk hK
          have d61 : a1.tmps.getD 61 undef = .int .i64 0 := hk.deps ⟨12, .data⟩ (by simp) rfl _ _ rfl rfl
          have gd : a1.tmps[60]? = some (.bool true) := getD_bool (hk.deps ⟨11, .guard⟩ (by simp) rfl _ _ rfl rfl)
          simp [Region.wanted, Oper.wp, Act.eval, go_sem, d61, gd, yielded]
          exact hK _ _ (Below.refl _ _) rfl
          | 14, _ =>
          obtain rfl := Option.some.inj hoq
          intro a1 w1 K hk hK
          have D60 : (a1.tmps.getD 60 undef) = .bool true := hk.deps ⟨11, .data⟩ (by simp) rfl _ _ rfl rfl
          have d62 : a1.tmps.getD 62 undef = .bool true := hk.deps ⟨13, .data⟩ (by simp) rfl _ _ rfl rfl
          simp [Region.wanted, Oper.wp, Act.eval, go_sem, D60, d62]
          exact hK _ _ (Below.refl _ _) rfl
          | 15, _ =>
          obtain rfl := Option.some.inj hoq
          intro a1 w1 K hk hK
          have D63 : (a1.tmps.getD 63 undef) = .bool true := hk.deps ⟨14, .data⟩ (by simp) rfl _ _ rfl rfl
          simp [Region.wanted, Oper.wp, Act.eval, go_sem, D63]
          exact hK _ _ (Below.refl _ _) rfl
          | 16, _ =>
          obtain rfl := Option.some.inj hoq
          intro a1 w1 K hk hK
          have e10 : a1.tmps.getD 10 undef = .pointer (some ⟨u, 0, none⟩) := hk.same 10 (by simp)
          have gd : a1.tmps[64]? = some (.bool true) := getD_bool (hk.deps ⟨15, .guard⟩ (by simp) rfl _ _ rfl rfl)
          simp [Region.wanted, Oper.wp, Act.eval, go_sem, e10, gd, yielded]
          exact hK _ _ (Below.refl _ _) rfl
          | 17, _ =>
          obtain rfl := Option.some.inj hoq
          intro a1 w1 K hk hK
          have e0 : a1.tmps.getD 0 undef = .int .i64 (n : Nat) := hk.same 0 (by simp)
          have gd : a1.tmps[64]? = some (.bool true) := getD_bool (hk.deps ⟨15, .guard⟩ (by simp) rfl _ _ rfl rfl)
          simp [Region.wanted, Oper.wp, Act.eval, go_sem, e0, gd, yielded]
          exact hK _ _ (Below.refl _ _) rfl
          | 18, _ =>
          obtain rfl := Option.some.inj hoq
          intro a1 w1 K hk hK
          have e6 : a1.tmps.getD 6 undef = .slice Am m4 cm := hk.same 6 (by simp)
          have gd : a1.tmps[64]? = some (.bool true) := getD_bool (hk.deps ⟨15, .guard⟩ (by simp) rfl _ _ rfl rfl)
          simp [Region.wanted, Oper.wp, Act.eval, go_sem, e6, gd, yielded]
          exact hK _ _ (Below.refl _ _) rfl
          | 19, _ =>
          obtain rfl := Option.some.inj hoq
          intro a1 w1 K hk hK
          have d65 : a1.tmps.getD 65 undef = .pointer (some ⟨u, 0, none⟩) := hk.deps ⟨16, .data⟩ (by simp) rfl _ _ rfl rfl
          have d66 : a1.tmps.getD 66 undef = .int .i64 (n : Nat) := hk.deps ⟨17, .data⟩ (by simp) rfl _ _ rfl rfl
          have d67 : a1.tmps.getD 67 undef = .slice Am m4 cm := hk.deps ⟨18, .data⟩ (by simp) rfl _ _ rfl rfl
          have gd : a1.tmps[64]? = some (.bool true) := getD_bool (hk.deps ⟨15, .guard⟩ (by simp) rfl _ _ rfl rfl)
          simp [Region.wanted, Oper.wp, Act.eval, go_sem, d65, d66, d67, gd, yielded]
          refine (HIs.out w1 (below_trans (by repeat (first | exact HZ.out | (refine Below.drew ?_) | (refine below_drewN' ?_ _) | (refine below_alloc' ?_ _) | (refine Below.setCell ?_ (by first | exact Nat.le_refl _ | (have := HZ.out.size; simp; omega) | (have := HZ.out.size; omega)) _))) hk.ext)).mono ?_
          rintro e w2 ⟨rfl, hb9⟩
          exact hK _ _ hb9 rfl
          | 20, _ =>
          obtain rfl := Option.some.inj hoq
          intro a1 w1 K hk hK
          have D64 : (a1.tmps.getD 64 undef) = .bool true := hk.deps ⟨15, .data⟩ (by simp) rfl _ _ rfl rfl
          have D68 : (a1.tmps.getD 68 undef) = .bool true := hk.deps ⟨19, .data⟩ (by simp) rfl _ _ rfl rfl
          simp [Region.wanted, Oper.wp, Act.eval, go_sem, D64, D68]
          exact hK _ _ (Below.refl _ _) rfl
          | 21, _ =>
          obtain rfl := Option.some.inj hoq
          intro a1 w1 K hk hK
          have D69 : (a1.tmps.getD 69 undef) = .bool true := hk.deps ⟨20, .data⟩ (by simp) rfl _ _ rfl rfl
          simp [Region.wanted, Oper.wp, Act.eval, go_sem, D69]
          exact hK _ _ (Below.refl _ _) rfl
          | 22, _ =>
          obtain rfl := Option.some.inj hoq
          intro a1 w1 K hk hK
          have e13 : a1.tmps.getD 13 undef = .int .i64 1 := hk.same 13 (by simp)
          have gd : a1.tmps[70]? = some (.bool true) := getD_bool (hk.deps ⟨21, .guard⟩ (by simp) rfl _ _ rfl rfl)
          simp [Region.wanted, Oper.wp, Act.eval, go_sem, e13, gd, yielded]
          exact hK _ _ (Below.refl _ _) rfl
          | 23, _ =>
          obtain rfl := Option.some.inj hoq
          intro a1 w1 K hk hK
          have d71 : a1.tmps.getD 71 undef = .int .i64 1 := hk.deps ⟨22, .data⟩ (by simp) rfl _ _ rfl rfl
          have gd : a1.tmps[70]? = some (.bool true) := getD_bool (hk.deps ⟨21, .guard⟩ (by simp) rfl _ _ rfl rfl)
          simp [Region.wanted, Oper.wp, Act.eval, go_sem, d71, gd, yielded]
          exact hK _ _ (Below.refl _ _) rfl
          | 24, _ =>
          obtain rfl := Option.some.inj hoq
          intro a1 w1 K hk hK
          have D70 : (a1.tmps.getD 70 undef) = .bool true := hk.deps ⟨21, .data⟩ (by simp) rfl _ _ rfl rfl
          have d72 : a1.tmps.getD 72 undef = .bool true := hk.deps ⟨23, .data⟩ (by simp) rfl _ _ rfl rfl
          simp [Region.wanted, Oper.wp, Act.eval, go_sem, D70, d72]
          exact hK _ _ (Below.refl _ _) rfl
          | k + 25, hk => exact absurd hk (by omega)
        · intro vs w3 hl hb3 hv
          match vs, hl with
          | v0 :: v1 :: v2 :: v3 :: v4 :: v5 :: v6 :: v7 :: v8 :: v9 :: v10 :: v11 :: v12 :: v13 :: v14 :: v15 :: v16 :: v17 :: v18 :: v19 :: v20 :: v21 :: v22 :: v23 :: v24 :: [], _ =>
          obtain rfl : v0 = .int .i64 0 := hv 0 (by omega)
          obtain rfl : v1 = .bool true := hv 1 (by omega)
          obtain rfl : v2 = .bool true := hv 2 (by omega)
          obtain rfl : v3 = .slice AB (Pk.bytesE n l).length cB := hv 3 (by omega)
          have q4 : v4 = .string ⟨(Pk.u8 (Pk.bytesE n l)).toArray⟩ := hv 4 (by omega)
          obtain rfl : v5 = .int .i64 (n : Nat) := hv 5 (by omega)
          obtain rfl : v6 = .slice Am m4 cm := hv 6 (by omega)
          have q7 : ∃ A9 n9 c9, v7 = .slice A9 n9 c9 ∧ RdB w3 (.slice A9 n9 c9) (Pk.bytesE n l) := hv 7 (by omega)
          have q8 : v8 = .string ⟨(Pk.u8 (Pk.bytesE n l)).toArray⟩ := hv 8 (by omega)
          have q9 : v9 = .bool true := hv 9 (by omega)
          have q10 : v10 = .bool true := hv 10 (by omega)
          have q11 : v11 = .bool true := hv 11 (by omega)
          obtain rfl : v12 = .int .i64 0 := hv 12 (by omega)
          obtain rfl : v13 = .bool true := hv 13 (by omega)
          have q14 : v14 = .bool true := hv 14 (by omega)
          have q15 : v15 = .bool true := hv 15 (by omega)
          obtain rfl : v16 = .pointer (some ⟨u, 0, none⟩) := hv 16 (by omega)
          obtain rfl : v17 = .int .i64 (n : Nat) := hv 17 (by omega)
          obtain rfl : v18 = .slice Am m4 cm := hv 18 (by omega)
          have q19 : v19 = .bool true := hv 19 (by omega)
          have q20 : v20 = .bool true := hv 20 (by omega)
          have q21 : v21 = .bool true := hv 21 (by omega)
          obtain rfl : v22 = .int .i64 1 := hv 22 (by omega)
          obtain rfl : v23 = .bool true := hv 23 (by omega)
          have q24 : v24 = .bool true := hv 24 (by omega)
          clear hv
          simp only [putAll, List.take_succ_cons, List.take_zero, List.drop_succ_cons, List.drop_zero, Act.put, List.setIfInBounds_toArray, List.set_cons_succ, List.set_cons_zero]
          have HB6 := Lib.hid (HB5.out.trans ((show Below wr.heap.size wr w3 by first | exact hb3 | exact below_trans (drewN_below wr 1) hb3 | exact below_trans (by repeat (first | exact HZ.out | (refine Below.drew ?_) | (refine below_drewN' ?_ _) | (refine below_alloc' ?_ _) | (refine Below.setCell ?_ (by first | exact Nat.le_refl _ | (have := HZ.out.size; simp; omega) | (have := HZ.out.size; omega)) _))) hb3).mono HB5.out.size))
          subst q24
          clear hb3
          go_wp2_with fail
          go_ret
          exact ⟨rfl, HB6.out⟩
end Go.Proofs.YtdkomhmciihkiaaGreat
