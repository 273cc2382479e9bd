/-
  Texts that the proof of MergeNil leans on, part 8: contracts of functions, and plain laws.
-/
import Derived.Test.YtdkomhmciihkiaaGreatMMergeNil7
/-! MrgK -/
namespace Go.Proofs.YtdkomhmciihkiaaGreat
open Go.RowKit
set_option linter.unusedVariables false
set_option linter.unusedSimpArgs false
set_option maxRecDepth 100000

theorem apart_pt {k : Nat} {o a b : List En} (ho : Et k o) (ha : Et k a) (hb : Et k b) (h : apartL (changesL o a) (changesL b o) = true) {p : List Nat} (hp : p.length = k) (hok : ∀ c ∈ p, c < 2 ^ 64) : getE a p = getE o p ∨ getE b p = getE o p := by
  rw [apart_law (chg_rt ho ha) (chg_rt hb ho)] at h
  unfold rapartL at h
  rw [List.all_eq_true] at h
  by_cases e : getE a p = getE o p
  · exact .inl e
  · right
    have h1 := chg_pt ho ha hp hok
    rw [changeOf_some (fun e' => e e'.symm)] at h1
    obtain ⟨h2, _⟩ := Od.look_some h1
    have h3 := h _ h2
    rw [Option.isNone_iff_eq_none, atL_look (chg_rt hb ho) hp hok, chg_pt hb ho hp hok, changeOf_none] at h3
    exact h3
theorem apart_fits {k : Nat} {o a b : List En} (ho : Et k o) (ha : Et k a) (hb : Et k b) (h : apartL (changesL o a) (changesL b o) = true) : fitsL b (changesL o a) = true := by
  unfold fitsL
  rw [List.all_eq_true]
  intro c hc
  have hl := (chg_rt ho ha).len c hc
  have hok := (chg_rt ho ha).ok c hc
  have h1 := chg_pt ho ha hl hok
  have h2 : Od.look Ch.key (changesL o a) (pkey c.p) = some c := Od.look_mem (key := Ch.key) (chg_rt ho ha).asc hc
  rw [h2] at h1
  by_cases e : getE o c.p = getE a c.p
  · rw [changeOf_none.2 e] at h1; cases h1
  · rw [changeOf_some e] at h1
    injection h1 with h1
    rcases apart_pt ho ha hb h hl hok with h3 | h3
    · exact absurd h3.symm e
    · unfold fitC1
      rw [h3]
      conv => lhs; rw [h1]
      simp
theorem apart_do (g : Clh → Option Nat) {k : Nat} {o a b : List En} (ho : Et k o) (ha : Et k a) (hb : Et k b) (h : apartL (changesL o a) (changesL b o) = true) : doL b (changesL o a) = mrgL g o a b := by
  obtain ⟨h1, h2⟩ := doL_spec (chg_rt ho ha) b hb
  refine h1.ext_get (mrg_spec g ho ha hb).1 fun p hp hok => ?_
  rw [(mrg_spec g ho ha hb).2 p hp hok]
  have h3 : getE (doL b (changesL o a)) p = match changeOf p (getE o p) (getE a p) with | none => getE b p | some c => valO c.has c.new := by
    show Option.map (fun (e : En) => e.v) (Od.look En.key (doL b (changesL o a)) (pkey p)) = _
    rw [h2, chg_pt ho ha hp hok]
    cases changeOf p (getE o p) (getE a p) with
    | none => rfl
    | some c =>
      simp only
      unfold valO
      split <;> rfl
  rw [h3]
  have h4 := apart_pt ho ha hb h hp hok
  generalize getE o p = O at *
  generalize getE a p = A at *
  generalize getE b p = B at *
  by_cases e : O = A
  · subst e
    rw [changeOf_none.2 rfl, mrgV_ao]
  · rw [changeOf_some e]
    rcases h4 with h4 | h4
    · exact absurd h4.symm e
    · subst h4
      rw [mrgV_bo]
      exact valO_get A
/-- what Three hands back -/
def Th3P (W : World) (k : Nat) (R : List En) (C : List Clh) (e : Ending) (w' : World) : Prop := Below W.heap.size W w' ∧
  ((C ≠ [] ∧ ∃ (A : Option Addr) (c : Nat), e = .returned (.tuple #[.pointer none, .slice A C.length c, .int .i64 7]) ∧ RdX w' (.slice A C.length c) C) ∨
   (C = [] ∧ ∃ t : Nat, e = .returned (.tuple #[.pointer (some ⟨t, 0, none⟩), .slice none 0 0, .int .i64 0]) ∧ TrR w' t k R))

set_option maxHeartbeats 4000000 in
theorem mthree_any (w : World) (o a b k : Nat) (lo la lb : List En) (ho : TrR w o k lo) (ha : TrR w a k la) (hb : TrR w b k lb) (hN : lo.length + la.length + lb.length ≤ 200) :
    Calls Tryz.prog 32 #[.pointer (some ⟨o, 0, none⟩), .pointer (some ⟨a, 0, none⟩), .pointer (some ⟨b, 0, none⟩)] w fun e w' => Th3P w k (mrgL pk1 lo la lb) (clsL lo la lb) e w' := by
  have HC := Lib.hid (clashes_any w o a b k lo la lb ho ha hb hN)
  have HT := Lib.hid (And.intro ho (And.intro ha hb))
  have HE := Lib.hid (And.intro ho.et (And.intro ha.et hb.et))
  have HK := Lib.hid (And.intro ho.k1 ho.k16)
  have HN := Lib.hid hN
  have HVA := Lib.hid (show (∀ e ∈ lo, e.v < 2 ^ 64) ∧ ∀ e ∈ la, e.v < 2 ^ 64 from ⟨let ⟨_, _, h⟩ := ho.c1; h.vals, let ⟨_, _, h⟩ := ha.c1; h.vals⟩)
  clear ho ha hb hN
  obtain ⟨C, hC⟩ : ∃ C, clsL lo la lb = C := ⟨_, rfl⟩
  rw [hC] at HC ⊢
  have HCC := Lib.hid hC
  clear hC
  cases C with
  | cons c0 C =>
    have hl : (0 : Int) < (C.length : Int) + 1 := by omega
    go_enter Tryz.func32, Tryz.ntmps32
    go_wp2_with fail
    refine HC.out.mono ?_
    rintro e w1 ⟨A, c, rfl, hx, hb1⟩
    have HF := Lib.hid (And.intro hx hb1)
    clear hx hb1
    rw [List.length_cons]
    go_wp2_with fail
    refine bodyPost_ret (v := .tuple #[.pointer none, .slice A (C.length + 1) c, .int .i64 7]) (by simp [results, Tryz.results32, go_sem]) rfl ⟨HF.out.2, .inl ⟨by simp, A, c, rfl, HF.out.1⟩⟩
  | nil =>
    have HR1 := Lib.hid (rt_rightL HK.out.1 HK.out.2 (chg_rt HE.out.1 HE.out.2.1))
    have HR2 := Lib.hid (rt_rightL HK.out.1 HK.out.2 (chg_rt HE.out.2.2 HE.out.1))
    have HL := Lib.hid (show (changesL lo la).length ≤ 400 ∧ (changesL lb lo).length ≤ 400 by
      have h1 := changes_len HE.out.1 HE.out.2.1
      have h2 := changes_len HE.out.2.2 HE.out.1
      have := HN.out
      omega)
    go_enter Tryz.func32, Tryz.ntmps32
    go_wp2_with fail
    refine HC.out.mono ?_
    rintro e w1 ⟨A, c, rfl, hx, hb1⟩
    have HB1 := Lib.hid hb1
    clear hx hb1
    rw [List.length_nil]
    go_wp2_with fail
    refine (changes_any w1 o a k lo la (HT.out.1.bel HB1.out) (HT.out.2.1.bel HB1.out) (by have := HN.out; omega)).mono ?_
    rintro e w2 ⟨vx, rfl, hox, hb2⟩
    have HB2 := Lib.hid (HB1.out.trans (hb2.mono HB1.out.size))
    have HX2 := Lib.hid (hox.rd fun u p h => h.rd)
    clear hox hb2
    go_wp2_with fail
    refine (changes_any w2 b o k lb lo (HT.out.2.2.bel HB2.out) (HT.out.1.bel HB2.out) (by have := HN.out; omega)).mono ?_
    rintro e w3 ⟨vy, rfl, hoy, hb3⟩
    have HB3 := Lib.hid (HB2.out.trans (hb3.mono HB2.out.size))
    have HX3 := Lib.hid (And.intro (HX2.out.1.below hb3) HX2.out.2)
    have HY3 := Lib.hid (hoy.rd fun u p h => h.rd)
    clear hoy hb3
    go_wp2_with fail
    refine (tk_any w3 o k (HT.out.1.bel HB3.out).c0).mono ?_
    rintro e w9 ⟨rfl, hw⟩
    obtain rfl := hw.symm
    clear hw
    go_wp2_with fail
    refine (eApart_any (k : Nat) (changesL lo la) (changesL lb lo) vx vy w3 HX3.out HY3.out HL.out.1 HL.out.2 (chg_rt HE.out.1 HE.out.2.1).ok (chg_rt HE.out.2.2 HE.out.1).ok).mono ?_
    rintro e w4 ⟨rfl, hb4⟩
    have HB4 := Lib.hid (HB3.out.trans (hb4.mono HB3.out.size))
    have HX4 := Lib.hid (HX3.out.1.below hb4)
    rw [HR1.out, HR2.out]
    clear hb4
    cases hap : apartL (changesL lo la) (changesL lb lo) with
    | true =>
      have HDO := Lib.hid (eDo_any w4 b k lb (changesL lo la) vx (HT.out.2.2.bel HB4.out) HX4.out (by have := HL.out; omega) (chg_rt HE.out.1 HE.out.2.1).ok (fun c hc => (chg_okV HE.out.1 HE.out.2.1 HVA.out.1 HVA.out.2 c hc).2))
      have HAP := Lib.hid hap
      clear hap
      simp only [okV, okC, Bool.and_true, if_true]
      go_wp2_with fail
      refine HDO.out.mono ?_
      rintro e w5 ⟨hb5, h⟩
      have HB5 := Lib.hid (HB4.out.trans (hb5.mono HB4.out.size))
      rcases h with ⟨h, _⟩ | ⟨_, h, _⟩ | ⟨_, _, g, rfl, hg, _⟩
      · rw [HR1.out] at h; cases h
      · rw [apart_fits HE.out.1 HE.out.2.1 HE.out.2.2 HAP.out] at h; cases h
      · rw [apart_do pk1 HE.out.1 HE.out.2.1 HE.out.2.2 HAP.out] at hg
        have HG := Lib.hid hg
        clear hg hb5
        go_wp2_with fail
        refine bodyPost_ret (v := .tuple #[.pointer (some ⟨g, 0, none⟩), .slice none 0 0, .int .i64 0]) (by simp [results, Tryz.results32, go_sem]) rfl ⟨HB5.out, .inr ⟨rfl, g, rfl, HG.out⟩⟩
    | false =>
      have HBY := Lib.hid (by_1 w4 o a b k lo la lb (HT.out.1.bel HB4.out) (HT.out.2.1.bel HB4.out) (HT.out.2.2.bel HB4.out) HN.out)
      clear hap
      simp only [okV, okC, Bool.and_true, if_true]
      go_wp2_with fail
      refine HBY.out.mono ?_
      rintro e w5 ⟨t, rfl, ht, hb5⟩
      have HF := Lib.hid (And.intro ht (HB4.out.trans (hb5.mono HB4.out.size)))
      clear ht hb5
      go_wp2_with fail
      refine bodyPost_ret (v := .tuple #[.pointer (some ⟨t, 0, none⟩), .slice none 0 0, .int .i64 0]) (by simp [results, Tryz.results32, go_sem]) rfl ⟨HF.out.2, .inr ⟨rfl, t, rfl, HF.out.1⟩⟩
theorem mthree_err (w : World) (p q s : Option Addr) (c : Int) (hc : c ≠ 0) (HC : Calls Tryz.prog 97 #[.pointer p, .pointer q, .pointer s] w fun e w' => e = .returned (.int .i64 c) ∧ w' = w) :
    Calls Tryz.prog 32 #[.pointer p, .pointer q, .pointer s] w fun e w' => e = .returned (.tuple #[.pointer none, .slice none 0 0, .int .i64 c]) ∧ w' = w := by
  have HC := Lib.hid (clashes_err w p q s c hc HC)
  have hc' : (c != 0) = true := by simp [hc]
  go_enter Tryz.func32, Tryz.ntmps32
  go_wp2_with fail
  refine (HC.out).mono ?_
  rintro e w9 ⟨rfl, hw⟩
  obtain rfl := hw.symm
  clear hw
  go_wp2_with fail
  refine bodyPost_ret (v := .tuple #[.pointer none, .slice none 0 0, .int .i64 c]) (by simp [results, Tryz.results32, go_sem]) rfl ⟨rfl, rfl⟩
end Go.Proofs.YtdkomhmciihkiaaGreat
/-! MrgR -/
namespace Go.Proofs.YtdkomhmciihkiaaGreat
open Go.RowKit
set_option linter.unusedVariables false
set_option linter.unusedSimpArgs false
set_option maxRecDepth 100000

abbrev o14 : List En := insE [4, 0] 3 []
abbrev a14 : List En := insE [4, 0] 5 []
theorem aw14_c : clsL o14 a14 [] = [⟨[4, 0], true, true, false, 3, 5, 0⟩] := by first | rfl | kernel_rfl | decide
theorem aw14_m : mrgL pk5 o14 a14 [] = [⟨[4, 0], 5⟩] := by first | rfl | kernel_rfl | decide
theorem aw14_g : getE [⟨[4, 0], 5⟩] [4, 0] = some 5 := by first | rfl | kernel_rfl | decide
theorem th3_conf {W : World} {k : Nat} {R : List En} {C : List Clh} {e : Ending} {w' : World} (h : Th3P W k R C e w') (hc : C ≠ []) : ∃ (A : Option Addr) (c : Nat), e = .returned (.tuple #[.pointer none, .slice A C.length c, .int .i64 7]) ∧ RdX w' (.slice A C.length c) C ∧ Below W.heap.size W w' := by
  obtain ⟨hb, h | h⟩ := h
  · obtain ⟨_, A, c, h1, h2⟩ := h; exact ⟨A, c, h1, h2, hb⟩
  · exact absurd h.1 hc
set_option maxHeartbeats 2000000 in
theorem awake14_any (w : World) : Calls Tryz.prog 31 #[] w fun e w' => e = .returned (.bool true) ∧ Below w.heap.size w w' := by
  have HN2 := Lib.hid (fun W => tnew_any W 2 (by omega) (by omega))
  have HP1 := Lib.hid (fun W t vp (h : TrR W t 2 []) (hp : RdU W vp (pti [4, 0])) => tput_any W t 2 3 [4, 0] [] vp h hp rfl (by decide) (by decide))
  have HP2 := Lib.hid (fun W t vp (h : TrR W t 2 []) (hp : RdU W vp (pti [4, 0])) => tput_any W t 2 5 [4, 0] [] vp h hp rfl (by decide) (by decide))
  have HM := Lib.hid (fun W o a b (h1 : TrR W o 2 o14) (h2 : TrR W a 2 a14) (h3 : TrR W b 2 []) => (mthree_any W o a b 2 _ _ _ h1 h2 h3 (by decide)).mono fun e w' h => th3_conf h (by rw [aw14_c]; simp))
  have HY := Lib.hid (fun W o a b (h1 : TrR W o 2 o14) (h2 : TrR W a 2 a14) (h3 : TrR W b 2 []) => by_5 W o a b 2 _ _ _ h1 h2 h3 (by decide))
  have HG := Lib.hid (fun W t vp (h : TrR W t 2 [⟨[4, 0], 5⟩]) (hp : RdU W vp (pti [4, 0])) => tget_any W t 2 [4, 0] [⟨[4, 0], 5⟩] vp h hp rfl (by decide))
  rw [aw14_g] at HG
  rw [aw14_m] at HY
  rw [aw14_c] at HM HY
  simp only [Option.getD_some, Option.isSome_some] at HG
  rw [show ((2 : Nat) : Int) = 2 from rfl] at HN2
  rw [show ((3 : Nat) : Int) = 3 from rfl] at HP1
  rw [show ((5 : Nat) : Int) = 5 from rfl] at HP2 HG
  have HX0 := Lib.hid (show Below w.heap.size w (w.alloc (.cells #[.int .u64 4, .int .u64 0] 22)) from (by repeat (first | exact Below.refl _ _ | (refine Below.drew ?_) | (refine below_drewN' ?_ _) | (refine below_alloc' ?_ _) | (refine Below.setCell ?_ (by first | exact Nat.le_refl _ | (simp; done) | (simp; omega)) _))))
  have HP0 := Lib.hid (show RdU (w.alloc (.cells #[.int .u64 4, .int .u64 0] 22)) (.slice (some ⟨w.heap.size, 0, none⟩) 2 2) (pti [4, 0]) from RdU.two (by go_simp) (by go_simp))
  go_enter Tryz.func31, Tryz.ntmps31
  go_wp2_with fail
  generalize w.alloc (.cells #[.int .u64 4, .int .u64 0] 22) = w0 at *
  refine (HN2.out w0).mono ?_
  rintro e w1 ⟨t, rfl, ha, hb⟩
  have HT := Lib.hid ha
  have HX1 := Lib.hid (HX0.out.trans (hb.mono HX0.out.size))
  have HP := Lib.hid (HP0.out.below hb)
  clear ha hb HP0
  go_wp2_with fail
  refine (HP1.out w1 t _ HT.out HP.out).mono ?_
  rintro e w2 ⟨o, rfl, hg, hb, _, _⟩
  have HX2 := Lib.hid (HX1.out.trans (hb.mono HX1.out.size))
  have HT' := Lib.hid (HT.out.bel hb)
  have HP' := Lib.hid (HP.out.below hb)
  clear HT HP
  have HT := Lib.hid HT'.out
  have HP := Lib.hid HP'.out
  clear HT' HP'
  have HO := Lib.hid hg
  clear hg hb
  go_wp2_with fail
  refine (HP2.out w2 t _ HT.out HP.out).mono ?_
  rintro e w3 ⟨a, rfl, hg, hb, _, _⟩
  have HX3 := Lib.hid (HX2.out.trans (hb.mono HX2.out.size))
  have HT' := Lib.hid (HT.out.bel hb)
  have HP' := Lib.hid (HP.out.below hb)
  clear HT HP
  have HT := Lib.hid HT'.out
  have HP := Lib.hid HP'.out
  clear HT' HP'
  have HO' := Lib.hid (HO.out.bel hb)
  clear HO
  have HO := Lib.hid HO'.out
  clear HO'
  have HA := Lib.hid hg
  clear hg hb
  go_wp2_with fail
  refine (HM.out w3 o a t HO.out HA.out HT.out).mono ?_
  rintro e w4 ⟨A, c, rfl, hx, hb⟩
  have HX4 := Lib.hid (HX3.out.trans (hb.mono HX3.out.size))
  have HB4 := Lib.hid hb
  have HXX := Lib.hid hx
  clear hx hb
  go_wp2_with fail
  refine (HY.out w4 o a t (HO.out.bel HB4.out) (HA.out.bel HB4.out) (HT.out.bel HB4.out)).mono ?_
  rintro e w5 ⟨t5, rfl, ht5, hb⟩
  have HX5 := Lib.hid (HX4.out.trans (hb.mono HX4.out.size))
  have HB5 := Lib.hid hb
  have HT5 := Lib.hid ht5
  clear ht5 hb
  go_wp2_with fail
  refine (HG.out w5 t5 _ HT5.out ((HP.out.below HB4.out).below HB5.out)).mono ?_
  rintro e w6 ⟨rfl, hb⟩
  have HX6 := Lib.hid (HX5.out.trans (hb.mono HX5.out.size))
  have hx6 := (HXX.out.below HB5.out).below hb
  obtain ⟨A2, c2, e2, hx6⟩ := hx6
  simp only [Value.slice.injEq] at e2
  obtain ⟨rfl, _, rfl⟩ := e2
  obtain ⟨b, o2, rfl, hc⟩ := hx6 (by simp)
  obtain ⟨u, _, hu⟩ := hc 0 (by simp)
  have k5 : w6.cell? ⟨b, o2 + 5, none⟩ = some (.int .u64 5) := by have := hu 5 (by omega); simpa [clCells] using this
  have hbl := World.block_lt_of_cell? w6 _ k5
  clear hb hx6 hc hu
  go_wp2_with fail
  go_ret
  exact ⟨rfl, HX6.out⟩
end Go.Proofs.YtdkomhmciihkiaaGreat
/-! LawMNil -/
namespace Go.Proofs.YtdkomhmciihkiaaGreat
open Go.RowKit
set_option linter.unusedVariables false
set_option linter.unusedSimpArgs false
set_option maxRecDepth 100000

set_option maxHeartbeats 4000000 in
theorem mergeNil_any (w : World) (rule : Int) : Calls Tryz.prog 6 #[.int .i64 rule] w fun e w' => e = .returned (.bool true) ∧ Below w.heap.size w w' := by
  have HN2 := Lib.hid (fun W => tnew_any W 2 (by omega) (by omega))
  rw [show ((2 : Nat) : Int) = 2 from rfl] at HN2
  go_enter Tryz.func6, Tryz.ntmps6
  go_wp2_with fail
  refine (awake14_any _).mono ?_
  rintro e w1 ⟨rfl, hb1⟩
  have HB1 := Lib.hid hb1
  clear hb1
  go_wp2_with fail
  refine (HN2.out _).mono ?_
  rintro e w2 ⟨t, rfl, _, hb2⟩
  have HB2 := Lib.hid (HB1.out.trans (hb2.mono HB1.out.size))
  clear hb2
  go_wp2_with fail
  go_loopw [6, 7, 8, 9, 10, 11, 12, 13, 14] (fun i _ _ _ _ _ _ _ _ wr => ∃ j : Nat, j ≤ 3 ∧ i = .int .i64 j ∧ Below (w2.alloc (.cells #[.pointer none, .pointer (some ⟨t, 0, none⟩), .pointer (some ⟨t, 0, none⟩), .pointer (some ⟨t, 0, none⟩), .pointer none, .pointer (some ⟨t, 0, none⟩), .pointer (some ⟨t, 0, none⟩), .pointer (some ⟨t, 0, none⟩), .pointer none] 24)).heap.size (w2.alloc (.cells #[.pointer none, .pointer (some ⟨t, 0, none⟩), .pointer (some ⟨t, 0, none⟩), .pointer (some ⟨t, 0, none⟩), .pointer none, .pointer (some ⟨t, 0, none⟩), .pointer (some ⟨t, 0, none⟩), .pointer (some ⟨t, 0, none⟩), .pointer none] 24)) wr) (fun i _ _ _ _ _ _ _ _ _ => 3 - (intOf i).toNat)
  case atStart => exact ⟨0, Nat.zero_le _, rfl, Below.refl _ _⟩
  case round =>
    obtain ⟨j, hj, rfl, hb⟩ := hrel
    have HBr := Lib.hid hb
    clear hb
    rcases (show j = 0 ∨ j = 1 ∨ j = 2 ∨ j = 3 by omega) with rfl | rfl | rfl | rfl
    · 
      have HM1 := Lib.hid (fun W => mthree_err W none (some ⟨t, 0, none⟩) (some ⟨t, 0, none⟩) 1 (by decide) (mchk_nil0 W (some ⟨t, 0, none⟩) (some ⟨t, 0, none⟩)))
      have HM2 := Lib.hid (fun W => clashes_err W none (some ⟨t, 0, none⟩) (some ⟨t, 0, none⟩) 1 (by decide) (mchk_nil0 W (some ⟨t, 0, none⟩) (some ⟨t, 0, none⟩)))
      have HM3 := Lib.hid (fun W => by_err W none (some ⟨t, 0, none⟩) (some ⟨t, 0, none⟩) rule 1 (by decide) (mchk_nil0 W (some ⟨t, 0, none⟩) (some ⟨t, 0, none⟩)))
      have c0 := Below.keeps HBr.out _ _ (show (w2.alloc (.cells #[.pointer none, .pointer (some ⟨t, 0, none⟩), .pointer (some ⟨t, 0, none⟩), .pointer (some ⟨t, 0, none⟩), .pointer none, .pointer (some ⟨t, 0, none⟩), .pointer (some ⟨t, 0, none⟩), .pointer (some ⟨t, 0, none⟩), .pointer none] 24)).cell? ⟨w2.heap.size, 0, none⟩ = some (.pointer none) by go_simp)
      have c1 := Below.keeps HBr.out _ _ (show (w2.alloc (.cells #[.pointer none, .pointer (some ⟨t, 0, none⟩), .pointer (some ⟨t, 0, none⟩), .pointer (some ⟨t, 0, none⟩), .pointer none, .pointer (some ⟨t, 0, none⟩), .pointer (some ⟨t, 0, none⟩), .pointer (some ⟨t, 0, none⟩), .pointer none] 24)).cell? ⟨w2.heap.size, 1, none⟩ = some (.pointer (some ⟨t, 0, none⟩)) by go_simp)
      have c2 := Below.keeps HBr.out _ _ (show (w2.alloc (.cells #[.pointer none, .pointer (some ⟨t, 0, none⟩), .pointer (some ⟨t, 0, none⟩), .pointer (some ⟨t, 0, none⟩), .pointer none, .pointer (some ⟨t, 0, none⟩), .pointer (some ⟨t, 0, none⟩), .pointer (some ⟨t, 0, none⟩), .pointer none] 24)).cell? ⟨w2.heap.size, 2, none⟩ = some (.pointer (some ⟨t, 0, none⟩)) by go_simp)
      have hbl := World.block_lt_of_cell? wr _ c0
      go_wp2_with fail
      go_quiet ((exact Calls.quiet_of_same (HM1.out _)))
      have HB91 := Lib.hid (below_drewN' HBr.out nq)
      replace c0 := Below.keeps (below_drewN' (Below.refl _ _) nq) _ _ c0
      replace c1 := Below.keeps (below_drewN' (Below.refl _ _) nq) _ _ c1
      replace c2 := Below.keeps (below_drewN' (Below.refl _ _) nq) _ _ c2
      replace hbl := World.block_lt_of_cell? _ _ c0
      generalize wr.drewN nq = wq1 at *
      go_wp2_with fail
      go_quiet ((exact Calls.quiet_of_same (HM2.out _)))
      have HB92 := Lib.hid (below_drewN' HB91.out nq)
      replace c0 := Below.keeps (below_drewN' (Below.refl _ _) nq) _ _ c0
      replace c1 := Below.keeps (below_drewN' (Below.refl _ _) nq) _ _ c1
      replace c2 := Below.keeps (below_drewN' (Below.refl _ _) nq) _ _ c2
      replace hbl := World.block_lt_of_cell? _ _ c0
      generalize wq1.drewN nq = wq2 at *
      go_wp2_with fail
      go_quiet ((exact Calls.quiet_of_same (HM3.out _)))
      go_wp2_with fail
      go_roundw
      case rel => exact ⟨1, by omega, rfl, below_drewN' HB92.out _⟩
      case measure => simp [intOf]
    · 
      have HM1 := Lib.hid (fun W => mthree_err W (some ⟨t, 0, none⟩) none (some ⟨t, 0, none⟩) 1 (by decide) (mchk_nil1 W ⟨t, 0, none⟩ (some ⟨t, 0, none⟩)))
      have HM2 := Lib.hid (fun W => clashes_err W (some ⟨t, 0, none⟩) none (some ⟨t, 0, none⟩) 1 (by decide) (mchk_nil1 W ⟨t, 0, none⟩ (some ⟨t, 0, none⟩)))
      have HM3 := Lib.hid (fun W => by_err W (some ⟨t, 0, none⟩) none (some ⟨t, 0, none⟩) rule 1 (by decide) (mchk_nil1 W ⟨t, 0, none⟩ (some ⟨t, 0, none⟩)))
      have c0 := Below.keeps HBr.out _ _ (show (w2.alloc (.cells #[.pointer none, .pointer (some ⟨t, 0, none⟩), .pointer (some ⟨t, 0, none⟩), .pointer (some ⟨t, 0, none⟩), .pointer none, .pointer (some ⟨t, 0, none⟩), .pointer (some ⟨t, 0, none⟩), .pointer (some ⟨t, 0, none⟩), .pointer none] 24)).cell? ⟨w2.heap.size, 3, none⟩ = some (.pointer (some ⟨t, 0, none⟩)) by go_simp)
      have c1 := Below.keeps HBr.out _ _ (show (w2.alloc (.cells #[.pointer none, .pointer (some ⟨t, 0, none⟩), .pointer (some ⟨t, 0, none⟩), .pointer (some ⟨t, 0, none⟩), .pointer none, .pointer (some ⟨t, 0, none⟩), .pointer (some ⟨t, 0, none⟩), .pointer (some ⟨t, 0, none⟩), .pointer none] 24)).cell? ⟨w2.heap.size, 4, none⟩ = some (.pointer none) by go_simp)
      have c2 := Below.keeps HBr.out _ _ (show (w2.alloc (.cells #[.pointer none, .pointer (some ⟨t, 0, none⟩), .pointer (some ⟨t, 0, none⟩), .pointer (some ⟨t, 0, none⟩), .pointer none, .pointer (some ⟨t, 0, none⟩), .pointer (some ⟨t, 0, none⟩), .pointer (some ⟨t, 0, none⟩), .pointer none] 24)).cell? ⟨w2.heap.size, 5, none⟩ = some (.pointer (some ⟨t, 0, none⟩)) by go_simp)
      have hbl := World.block_lt_of_cell? wr _ c0
      go_wp2_with fail
      go_quiet ((exact Calls.quiet_of_same (HM1.out _)))
      have HB91 := Lib.hid (below_drewN' HBr.out nq)
      replace c0 := Below.keeps (below_drewN' (Below.refl _ _) nq) _ _ c0
      replace c1 := Below.keeps (below_drewN' (Below.refl _ _) nq) _ _ c1
      replace c2 := Below.keeps (below_drewN' (Below.refl _ _) nq) _ _ c2
      replace hbl := World.block_lt_of_cell? _ _ c0
      generalize wr.drewN nq = wq1 at *
      go_wp2_with fail
      go_quiet ((exact Calls.quiet_of_same (HM2.out _)))
      have HB92 := Lib.hid (below_drewN' HB91.out nq)
      replace c0 := Below.keeps (below_drewN' (Below.refl _ _) nq) _ _ c0
      replace c1 := Below.keeps (below_drewN' (Below.refl _ _) nq) _ _ c1
      replace c2 := Below.keeps (below_drewN' (Below.refl _ _) nq) _ _ c2
      replace hbl := World.block_lt_of_cell? _ _ c0
      generalize wq1.drewN nq = wq2 at *
      go_wp2_with fail
      go_quiet ((exact Calls.quiet_of_same (HM3.out _)))
      go_wp2_with fail
      go_roundw
      case rel => exact ⟨2, by omega, rfl, below_drewN' HB92.out _⟩
      case measure => simp [intOf]
    · 
      have HM1 := Lib.hid (fun W => mthree_err W (some ⟨t, 0, none⟩) (some ⟨t, 0, none⟩) none 1 (by decide) (mchk_nil2 W ⟨t, 0, none⟩ ⟨t, 0, none⟩))
      have HM2 := Lib.hid (fun W => clashes_err W (some ⟨t, 0, none⟩) (some ⟨t, 0, none⟩) none 1 (by decide) (mchk_nil2 W ⟨t, 0, none⟩ ⟨t, 0, none⟩))
      have HM3 := Lib.hid (fun W => by_err W (some ⟨t, 0, none⟩) (some ⟨t, 0, none⟩) none rule 1 (by decide) (mchk_nil2 W ⟨t, 0, none⟩ ⟨t, 0, none⟩))
      have c0 := Below.keeps HBr.out _ _ (show (w2.alloc (.cells #[.pointer none, .pointer (some ⟨t, 0, none⟩), .pointer (some ⟨t, 0, none⟩), .pointer (some ⟨t, 0, none⟩), .pointer none, .pointer (some ⟨t, 0, none⟩), .pointer (some ⟨t, 0, none⟩), .pointer (some ⟨t, 0, none⟩), .pointer none] 24)).cell? ⟨w2.heap.size, 6, none⟩ = some (.pointer (some ⟨t, 0, none⟩)) by go_simp)
      have c1 := Below.keeps HBr.out _ _ (show (w2.alloc (.cells #[.pointer none, .pointer (some ⟨t, 0, none⟩), .pointer (some ⟨t, 0, none⟩), .pointer (some ⟨t, 0, none⟩), .pointer none, .pointer (some ⟨t, 0, none⟩), .pointer (some ⟨t, 0, none⟩), .pointer (some ⟨t, 0, none⟩), .pointer none] 24)).cell? ⟨w2.heap.size, 7, none⟩ = some (.pointer (some ⟨t, 0, none⟩)) by go_simp)
      have c2 := Below.keeps HBr.out _ _ (show (w2.alloc (.cells #[.pointer none, .pointer (some ⟨t, 0, none⟩), .pointer (some ⟨t, 0, none⟩), .pointer (some ⟨t, 0, none⟩), .pointer none, .pointer (some ⟨t, 0, none⟩), .pointer (some ⟨t, 0, none⟩), .pointer (some ⟨t, 0, none⟩), .pointer none] 24)).cell? ⟨w2.heap.size, 8, none⟩ = some (.pointer none) by go_simp)
      have hbl := World.block_lt_of_cell? wr _ c0
      go_wp2_with fail
      go_quiet ((exact Calls.quiet_of_same (HM1.out _)))
      have HB91 := Lib.hid (below_drewN' HBr.out nq)
      replace c0 := Below.keeps (below_drewN' (Below.refl _ _) nq) _ _ c0
      replace c1 := Below.keeps (below_drewN' (Below.refl _ _) nq) _ _ c1
      replace c2 := Below.keeps (below_drewN' (Below.refl _ _) nq) _ _ c2
      replace hbl := World.block_lt_of_cell? _ _ c0
      generalize wr.drewN nq = wq1 at *
      go_wp2_with fail
      go_quiet ((exact Calls.quiet_of_same (HM2.out _)))
      have HB92 := Lib.hid (below_drewN' HB91.out nq)
      replace c0 := Below.keeps (below_drewN' (Below.refl _ _) nq) _ _ c0
      replace c1 := Below.keeps (below_drewN' (Below.refl _ _) nq) _ _ c1
      replace c2 := Below.keeps (below_drewN' (Below.refl _ _) nq) _ _ c2
      replace hbl := World.block_lt_of_cell? _ _ c0
      generalize wq1.drewN nq = wq2 at *
      go_wp2_with fail
      go_quiet ((exact Calls.quiet_of_same (HM3.out _)))
      go_wp2_with fail
      go_roundw
      case rel => exact ⟨3, by omega, rfl, below_drewN' HB92.out _⟩
      case measure => simp [intOf]
    · go_wp2_with fail
      go_ret
      exact ⟨rfl, HB2.out.trans (((show Below w2.heap.size w2 (w2.alloc (.cells #[.pointer none, .pointer (some ⟨t, 0, none⟩), .pointer (some ⟨t, 0, none⟩), .pointer (some ⟨t, 0, none⟩), .pointer none, .pointer (some ⟨t, 0, none⟩), .pointer (some ⟨t, 0, none⟩), .pointer (some ⟨t, 0, none⟩), .pointer none] 24)) from (by repeat (first | exact Below.refl _ _ | (refine Below.drew ?_) | (refine below_drewN' ?_ _) | (refine below_alloc' ?_ _) | (refine Below.setCell ?_ (by first | exact Nat.le_refl _ | (simp; done) | (simp; omega)) _)))).trans (HBr.out.mono (by simp))).mono HB2.out.size)⟩
end Go.Proofs.YtdkomhmciihkiaaGreat
