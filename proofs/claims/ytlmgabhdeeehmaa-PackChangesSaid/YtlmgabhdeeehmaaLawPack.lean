/-
  The walk of pantilelaw19.PackChanges: it returns true.
-/
import Derived.Test.YtlmgabhdeeehmaaPkR6
import Derived.Test.YtlmgabhdeeehmaaPkT
import Derived.Test.YtlmgabhdeeehmaaOpenV
import Derived.Test.YtlmgabhdeeehmaaChg3
import Derived.Test.YtlmgabhdeeehmaaSameE
namespace Go
theorem getD_bool {t : Array Value} {d : Nat} {b : Bool} (h : t.getD d undef = .bool b) : t[d]? = some (.bool b) := by
  rw [Array.getD_eq_getD_getElem?] at h
  cases hx : t[d]? with
  | none => rw [hx] at h; cases h
  | some v => rw [hx] at h; simp only [Option.getD_some] at h; rw [h]
end Go
namespace Go.Proofs.Ytlmgabhdeeehmaa
open Go.RowKit
set_option linter.unusedVariables false
set_option linter.unusedSimpArgs false

def Pk.u8 (bs : List Nat) : List UInt8 := bs.map UInt8.ofNat
theorem Pk.u8_back (bs : List Nat) (h : ∀ b ∈ bs, b < 256) : (Pk.u8 bs).map UInt8.toNat = bs := by
  unfold Pk.u8
  rw [List.map_map]
  conv => rhs; rw [← List.map_id bs]
  refine List.map_congr_left fun b hb => ?_
  have := h b hb
  simp only [Function.comp_apply, id]
  rw [UInt8.toNat_ofNat']
  omega
theorem Pk.lebP_byte (p q : List Nat) (hp : ∀ x ∈ p, x < 2 ^ 64) (hq : ∀ x ∈ q, x < 2 ^ 64) : ∀ b ∈ Pk.lebP p q, b < 256 := by
  induction p generalizing q with
  | nil => intro b hb; simp [Pk.lebP] at hb
  | cons c p ih =>
    cases q with
    | nil => intro b hb; simp [Pk.lebP] at hb
    | cons d q =>
      intro b hb
      unfold Pk.lebP at hb
      rcases List.mem_append.1 hb with hb | hb
      · exact Pk.leb_byte _ (Nat.xor_lt_two_pow (hp c (List.mem_cons_self ..)) (hq d (List.mem_cons_self ..))) b hb
      · exact ih q (fun x hx => hp x (List.mem_cons_of_mem _ hx)) (fun x hx => hq x (List.mem_cons_of_mem _ hx)) b hb
theorem Pk.all_byte (l : List Ch) (last : List Nat) (hl : ∀ x ∈ last, x < 2 ^ 64) (ok : OkC l) (ov : OkV l) : ∀ b ∈ Pk.all last l, b < 256 := by
  induction l generalizing last with
  | nil => intro b hb; simp [Pk.all] at hb
  | cons c l ih =>
    intro b hb
    unfold Pk.all Pk.one at hb
    have h1 := ok c (List.mem_cons_self ..)
    have h2 := ov c (List.mem_cons_self ..)
    rcases List.mem_append.1 hb with hb | hb
    · rcases List.mem_append.1 hb with hb | hb
      · exact Pk.lebP_byte _ _ h1 hl b hb
      · rcases List.mem_cons.1 hb with rfl | hb
        · unfold Pk.flag; split <;> split <;> omega
        · unfold Pk.vals at hb
          rcases List.mem_append.1 hb with hb | hb
          · split at hb
            · exact Pk.leb_byte _ h2.1 b hb
            · simp at hb
          · split at hb
            · exact Pk.leb_byte _ h2.2 b hb
            · simp at hb
    · exact ih c.p h1 (fun d hd => ok d (List.mem_cons_of_mem _ hd)) (fun d hd => ov d (List.mem_cons_of_mem _ hd)) b hb
theorem Pk.bytes_byte (k : Nat) (l : List Ch) (hk : k ≤ 16) (hn : l.length ≤ 1000) (ok : OkC l) (ov : OkV l) : ∀ b ∈ Pk.bytes k l, b < 256 := by
  intro b hb
  unfold Pk.bytes at hb
  rcases List.mem_append.1 hb with hb | hb
  · simp at hb; omega
  · rcases List.mem_append.1 hb with hb | hb
    · exact Pk.leb_byte _ (by omega) b hb
    · rcases List.mem_append.1 hb with hb | hb
      · exact Pk.leb_byte _ (by omega) b hb
      · exact Pk.all_byte l _ (fun x hx => by unfold Pk.zeros at hx; have := List.eq_of_mem_replicate hx; omega) ok ov b hb
theorem heavy19 {l : List Ch} {n : Nat} (h : heavyB l n = false) : l.length ≤ n ∧ ∀ c ∈ l, c.p.length ≤ 40 := by
  unfold heavyB at h
  simp only [Bool.or_eq_false_iff, decide_eq_false_iff_not, List.any_eq_false, decide_eq_true_eq] at h
  exact ⟨by omega, fun c hc => by have := h.2 c hc; omega⟩

set_option maxRecDepth 100000 in
set_option maxHeartbeats 8000000 in
theorem packChanges_any (k : Int) (l : List Ch) (v : Value) (w : World) (hl : RdC w v l) (ok : OkC l ∧ OkV l) : Calls Try.prog 10 #[.int .i64 k, v] w fun e w' => e = .returned (.bool true) ∧ Below w.heap.size w w' := by
  have HH := Lib.hid (fun (w' : World) (h : RdC w' v l) => Heavy_any l 40 v w' h (by decide))
  have HL := Lib.hid hl
  obtain ⟨AL, nL, cL, rfl⟩ : ∃ A n c, v = .slice A n c := let ⟨A, c, e, _⟩ := hl; ⟨A, _, c, e⟩
  clear hl
  cases eh : heavyB l 40 with
  | true =>
    rw [eh] at HH
    clear eh ok
    go_enter Try.func10, Try.ntmps10
    go_wp2_with fail
    refine (awake19_any _).mono ?_
    rintro e w0 ⟨rfl, hb0⟩
    have HB0 := Lib.hid hb0
    clear hb0
    go_wp2_with fail
    refine (HH.out _ (HL.out.below HB0.out)).mono ?_
    rintro e w1 ⟨rfl, hw⟩
    obtain rfl := hw.symm
    go_wp2_with fail
    go_ret
    exact ⟨rfl, HB0.out⟩
  | false =>
    have HD := Lib.hid (heavy19 eh)
    have HOk := Lib.hid ok
    rw [eh] at HH
    have HC := Lib.hid (fun (w' : World) (h : RdC w' (.slice AL nL cL) l) => wChanges_any k l (.slice AL nL cL) w' h (by have := HD.out.1; omega) ok.1 ok.2)
    have HR := Lib.hid (fun (w' : World) (h : RdC w' (.slice AL nL cL) l) => rRight_any k l (.slice AL nL cL) w' h (by have := HD.out.1; omega) ok.1)
    clear eh ok
    cases hr : rightL k l with
    | false =>
      rw [hr] at HC HR
      clear hr
      go_enter Try.func10, Try.ntmps10
      go_wp2_with fail
      refine (awake19_any _).mono ?_
      rintro e w0 ⟨rfl, hb0⟩
      have HB0 := Lib.hid hb0
      clear hb0
      go_wp2_with fail
      refine (HH.out _ (HL.out.below HB0.out)).mono ?_
      rintro e w1 ⟨rfl, hw⟩
      obtain rfl := hw.symm
      go_wp2_with fail
      refine (HC.out _ (HL.out.below HB0.out)).mono ?_
      rintro e w2 ⟨rfl, hb2⟩
      have HB2 := Lib.hid (HB0.out.trans (hb2.mono HB0.out.size))
      clear hb2
      go_wp2_with fail
      refine (HR.out _ (HL.out.below HB2.out)).mono ?_
      rintro e w3 ⟨rfl, hb3⟩
      have HB3 := Lib.hid (HB2.out.trans (hb3.mono HB2.out.size))
      clear hb3
      go_wp2_with fail
      go_ret
      exact ⟨rfl, HB3.out⟩
    | true =>
      obtain ⟨n, rfl, n1, n16, rt⟩ := rightL_rt HOk.out.1 hr
      rw [hr] at HC HR
      rw [show ((n : Nat) : Int).toNat = n by omega] at HC
      have HBy := Lib.hid (Pk.bytes_byte n l n16 (by have := HD.out.1; omega) HOk.out.1 HOk.out.2)
      have HRd := Lib.hid (fun (w' : World) (vb : Value) (h : RdB w' vb (Pk.bytes n l)) => rdChanges_any w' n l vb h n1 n16 rt (by have := HD.out.1; omega) HOk.out.2)
      have HRf0 := Lib.hid (fun (w' : World) (h : RdC w' (.slice AL nL cL) l) => rChangesB_any n l (.slice AL nL cL) w' h rt ⟨n1, n16⟩ (by have := HD.out.1; omega) HOk.out.2)
      clear hr n1 n16 rt
      go_enter Try.func10, Try.ntmps10
      go_wp2_with fail
      refine (awake19_any _).mono ?_
      rintro e w0 ⟨rfl, hb0⟩
      have HB0 := Lib.hid hb0
      clear hb0
      go_wp2_with fail
      refine (HH.out _ (HL.out.below HB0.out)).mono ?_
      rintro e w1 ⟨rfl, hw⟩
      obtain rfl := hw.symm
      go_wp2_with fail
      refine (HC.out _ (HL.out.below HB0.out)).mono ?_
      rintro e w2 ⟨⟨AB, cB, rfl, hrb⟩, hb2⟩
      have HB2 := Lib.hid (HB0.out.trans (hb2.mono HB0.out.size))
      have HRb2 := Lib.hid hrb
      clear hb2 hrb
      go_wp2_with fail
      refine (HR.out _ (HL.out.below HB2.out)).mono ?_
      rintro e w3 ⟨rfl, hb3⟩
      have HB3 := Lib.hid (HB2.out.trans (hb3.mono HB2.out.size))
      have HRb3 := Lib.hid (HRb2.out.below hb3)
      clear hb3
      go_wp2_with fail
      refine (HRd.out _ _ HRb3.out).mono ?_
      rintro e wr ⟨vm, rfl, hrm, hb4⟩
      obtain ⟨AM, nM, cM, rfl⟩ : ∃ A n c, vm = .slice A n c := let ⟨A, c, e, _⟩ := hrm; ⟨A, _, c, e⟩
      have HB4 := Lib.hid (HB3.out.trans (hb4.mono HB3.out.size))
      have HRb := Lib.hid (show ∀ wz, Below wr.heap.size wr wz → RdB wz (.slice AB (Pk.bytes n l).length cB) ((Pk.u8 (Pk.bytes n l)).map UInt8.toNat) from fun wz hz => by
        rw [Pk.u8_back _ HBy.out]; exact (HRb3.out.below hb4).below hz)
      have HRf := Lib.hid (fun (wz : World) (hz : Below wr.heap.size wr wz) => HRf0.out wz ((HL.out.below HB4.out).below hz))
      have HSm := Lib.hid (show ∀ wz, Below wr.heap.size wr wz → Calls Try.prog 43 #[.slice AM nM cM, .slice AL nL cL] wz fun e w' => e = .returned (.bool true) ∧ ∃ q, w' = wz.drewN q from fun wz hz => by
        have := rSameC_any l l (.slice AM nM cM) (.slice AL nL cL) wz (RdC.below hrm hz) ((HL.out.below HB4.out).below hz) (by have := HD.out.1; omega) HD.out.2
        rwa [eqL_true rfl] at this)
      clear hrm hb4
      go_wp2_with fail
      refine wp_region_vals 25 [fun v _ => v = .int .i64 0,
        fun v _ => v = .bool true,
        fun v _ => v = .bool true,
        fun v _ => v = .slice AB (Pk.bytes n l).length cB,
        fun v9 w9 => v9 = .string ⟨(Pk.u8 (Pk.bytes n l)).toArray⟩,
        fun v _ => v = .int .i64 (n : Nat),
        fun v _ => v = .slice AL nL cL,
        fun v9 w9 => ∃ A9 n9 c9, v9 = .slice A9 n9 c9 ∧ RdB w9 (.slice A9 n9 c9) (Pk.bytes n l),
        fun v9 w9 => v9 = .string ⟨(Pk.u8 (Pk.bytes n l)).toArray⟩,
        fun v9 w9 => v9 = .bool true,
        fun v9 w9 => v9 = .bool true,
        fun v9 w9 => v9 = .bool true,
        fun v _ => v = .int .i64 0,
        fun v _ => v = .bool true,
        fun v9 w9 => v9 = .bool true,
        fun v9 w9 => v9 = .bool true,
        fun v _ => v = .int .i64 (n : Nat),
        fun v _ => v = .int .i64 (n : Nat),
        fun v _ => v = .bool true,
        fun v9 w9 => v9 = .bool true,
        fun v9 w9 => v9 = .bool true,
        fun v _ => v = .slice AM nM cM,
        fun v _ => v = .slice AL nL cL,
        fun v9 w9 => v9 = .bool true,
        fun v9 w9 => v9 = .bool true]
        (by kernel_rfl) (by kernel_rfl) (by kernel_rfl) (by kernel_rfl) ?_ ?_ ?_
      · intro V hV v w1 w2 h hb
        simp only [List.mem_cons, List.not_mem_nil, or_false] at hV
        rcases hV with rfl | rfl | rfl | rfl | rfl | rfl | rfl | rfl | rfl | rfl | rfl | rfl | rfl | rfl | rfl | rfl | rfl | rfl | rfl | rfl | rfl | rfl | rfl | rfl | rfl
        all_goals first | exact h | ((obtain ⟨A9, n9, c9, e9, h9⟩ := h; exact ⟨A9, n9, c9, e9, h9.below hb⟩))
      · intro i o hi ho
        match i, hi with
        | 0, _ =>
        obtain rfl := Option.some.inj ho
        intro a1 w1 K hk hK
        have e6 : a1.tmps.getD 6 undef = .int .i64 0 := hk.same 6 (by simp)
        simp [Region.wanted, Oper.wp, Act.eval, go_sem, e6]
        exact hK _ _ (Below.refl _ _) rfl
        | 1, _ =>
        obtain rfl := Option.some.inj ho
        intro a1 w1 K hk hK
        have d37 : a1.tmps.getD 37 undef = .int .i64 0 := hk.deps ⟨0, .data⟩ (by simp) rfl _ _ rfl rfl
        simp [Region.wanted, Oper.wp, Act.eval, go_sem, d37]
        exact hK _ _ (Below.refl _ _) rfl
        | 2, _ =>
        obtain rfl := Option.some.inj ho
        intro a1 w1 K hk hK
        have d38 : a1.tmps.getD 38 undef = .bool true := hk.deps ⟨1, .data⟩ (by simp) rfl _ _ rfl rfl
        simp [Region.wanted, Oper.wp, Act.eval, go_sem, d38]
        exact hK _ _ (Below.refl _ _) rfl
        | 3, _ =>
        obtain rfl := Option.some.inj ho
        intro a1 w1 K hk hK
        have e5 : a1.tmps.getD 5 undef = .slice AB (Pk.bytes n l).length cB := hk.same 5 (by simp)
        have gd : a1.tmps[39]? = some (.bool true) := getD_bool (hk.deps ⟨2, .guard⟩ (by simp) rfl _ _ rfl rfl)
        simp [Region.wanted, Oper.wp, Act.eval, go_sem, e5, gd, yielded]
        exact hK _ _ (Below.refl _ _) rfl
        | 4, _ =>
        obtain rfl := Option.some.inj ho
        intro a1 w1 K hk hK
        have d40 : a1.tmps.getD 40 undef = .slice AB (Pk.bytes n l).length cB := hk.deps ⟨3, .data⟩ (by simp) rfl _ _ rfl rfl
        have gd : a1.tmps[39]? = some (.bool true) := getD_bool (hk.deps ⟨2, .guard⟩ (by simp) rfl _ _ rfl rfl)
        have hcv := conv_str (Pk.u8 (Pk.bytes n l)) (HRb.out w1 (below_trans (drewN_below wr 1) hk.ext))
        simp [Region.wanted, yielded, gd, Oper.wp, Act.eval, go_sem, d40, hcv]
        exact hK _ _ (Below.refl _ _) rfl
        | 5, _ =>
        obtain rfl := Option.some.inj ho
        intro a1 w1 K hk hK
        have e0 : a1.tmps.getD 0 undef = .int .i64 (n : Nat) := hk.same 0 (by simp)
        have gd : a1.tmps[39]? = some (.bool true) := getD_bool (hk.deps ⟨2, .guard⟩ (by simp) rfl _ _ rfl rfl)
        simp [Region.wanted, Oper.wp, Act.eval, go_sem, e0, gd, yielded]
        exact hK _ _ (Below.refl _ _) rfl
        | 6, _ =>
        obtain rfl := Option.some.inj ho
        intro a1 w1 K hk hK
        have e1 : a1.tmps.getD 1 undef = .slice AL nL cL := hk.same 1 (by simp)
        have gd : a1.tmps[39]? = some (.bool true) := getD_bool (hk.deps ⟨2, .guard⟩ (by simp) rfl _ _ rfl rfl)
        simp [Region.wanted, Oper.wp, Act.eval, go_sem, e1, gd, yielded]
        exact hK _ _ (Below.refl _ _) rfl
        | 7, _ =>
        obtain rfl := Option.some.inj ho
        intro a1 w1 K hk hK
        have d42 : a1.tmps.getD 42 undef = .int .i64 (n : Nat) := hk.deps ⟨5, .data⟩ (by simp) rfl _ _ rfl rfl
        have d43 : a1.tmps.getD 43 undef = .slice AL nL cL := hk.deps ⟨6, .data⟩ (by simp) rfl _ _ rfl rfl
        have gd : a1.tmps[39]? = some (.bool true) := getD_bool (hk.deps ⟨2, .guard⟩ (by simp) rfl _ _ rfl rfl)
        simp [Region.wanted, Oper.wp, Act.eval, go_sem, d42, d43, gd, yielded]
        refine (HRf.out w1 (below_trans (drewN_below wr 1) hk.ext)).mono ?_
        rintro e w2 ⟨v9, rfl, hr9, hb9⟩
        obtain ⟨A9, c9, e9, h9⟩ := hr9
        exact hK _ _ hb9 ⟨A9, _, c9, e9, e9 ▸ ⟨A9, c9, e9, h9⟩⟩
        | 8, _ =>
        obtain rfl := Option.some.inj ho
        intro a1 w1 K hk hK
        have D44 : ∃ A9 n9 c9, (a1.tmps.getD 44 undef) = .slice A9 n9 c9 ∧ RdB w1 (.slice A9 n9 c9) (Pk.bytes n l) := hk.deps ⟨7, .data⟩ (by simp) rfl _ _ rfl rfl
        have gd : a1.tmps[39]? = some (.bool true) := getD_bool (hk.deps ⟨2, .guard⟩ (by simp) rfl _ _ rfl rfl)
        obtain ⟨A9, n9, c9, D44e, hr9⟩ := D44
        have hcv := conv_str (Pk.u8 (Pk.bytes n l)) (v := .slice A9 n9 c9) (w := w1) (by rw [Pk.u8_back _ HBy.out]; exact hr9)
        simp [Region.wanted, yielded, gd, Oper.wp, Act.eval, go_sem, D44e, hcv]
        exact hK _ _ (Below.refl _ _) rfl
        | 9, _ =>
        obtain rfl := Option.some.inj ho
        intro a1 w1 K hk hK
        have D41 : (a1.tmps.getD 41 undef) = .string ⟨(Pk.u8 (Pk.bytes n l)).toArray⟩ := hk.deps ⟨4, .data⟩ (by simp) rfl _ _ rfl rfl
        have D45 : (a1.tmps.getD 45 undef) = .string ⟨(Pk.u8 (Pk.bytes n l)).toArray⟩ := hk.deps ⟨8, .data⟩ (by simp) rfl _ _ rfl rfl
        have gd : a1.tmps[39]? = some (.bool true) := getD_bool (hk.deps ⟨2, .guard⟩ (by simp) rfl _ _ rfl rfl)
        simp [Region.wanted, yielded, gd, Oper.wp, Act.eval, go_sem, D41, D45]
        exact hK _ _ (Below.refl _ _) rfl
        | 10, _ =>
        obtain rfl := Option.some.inj ho
        intro a1 w1 K hk hK
        have d39 : a1.tmps.getD 39 undef = .bool true := hk.deps ⟨2, .data⟩ (by simp) rfl _ _ rfl rfl
        have D46 : (a1.tmps.getD 46 undef) = .bool true := hk.deps ⟨9, .data⟩ (by simp) rfl _ _ rfl rfl
        simp [Region.wanted, Oper.wp, Act.eval, go_sem, d39, D46]
        exact hK _ _ (Below.refl _ _) rfl
        | 11, _ =>
        obtain rfl := Option.some.inj ho
        intro a1 w1 K hk hK
        have D47 : (a1.tmps.getD 47 undef) = .bool true := hk.deps ⟨10, .data⟩ (by simp) rfl _ _ rfl rfl
        simp [Region.wanted, Oper.wp, Act.eval, go_sem, D47]
        exact hK _ _ (Below.refl _ _) rfl
        | 12, _ =>
        obtain rfl := Option.some.inj ho
        intro a1 w1 K hk hK
        have e9 : a1.tmps.getD 9 undef = .int .i64 0 := hk.same 9 (by simp)
        have gd : a1.tmps[48]? = some (.bool true) := getD_bool (hk.deps ⟨11, .guard⟩ (by simp) rfl _ _ rfl rfl)
        simp [Region.wanted, Oper.wp, Act.eval, go_sem, e9, gd, yielded]
        exact hK _ _ (Below.refl _ _) rfl
        | 13, _ =>
        obtain rfl := Option.some.inj ho
        intro a1 w1 K hk hK
        have d49 : a1.tmps.getD 49 undef = .int .i64 0 := hk.deps ⟨12, .data⟩ (by simp) rfl _ _ rfl rfl
        have gd : a1.tmps[48]? = some (.bool true) := getD_bool (hk.deps ⟨11, .guard⟩ (by simp) rfl _ _ rfl rfl)
        simp [Region.wanted, Oper.wp, Act.eval, go_sem, d49, gd, yielded]
        exact hK _ _ (Below.refl _ _) rfl
        | 14, _ =>
        obtain rfl := Option.some.inj ho
        intro a1 w1 K hk hK
        have D48 : (a1.tmps.getD 48 undef) = .bool true := hk.deps ⟨11, .data⟩ (by simp) rfl _ _ rfl rfl
        have d50 : a1.tmps.getD 50 undef = .bool true := hk.deps ⟨13, .data⟩ (by simp) rfl _ _ rfl rfl
        simp [Region.wanted, Oper.wp, Act.eval, go_sem, D48, d50]
        exact hK _ _ (Below.refl _ _) rfl
        | 15, _ =>
        obtain rfl := Option.some.inj ho
        intro a1 w1 K hk hK
        have D51 : (a1.tmps.getD 51 undef) = .bool true := hk.deps ⟨14, .data⟩ (by simp) rfl _ _ rfl rfl
        simp [Region.wanted, Oper.wp, Act.eval, go_sem, D51]
        exact hK _ _ (Below.refl _ _) rfl
        | 16, _ =>
        obtain rfl := Option.some.inj ho
        intro a1 w1 K hk hK
        have e7 : a1.tmps.getD 7 undef = .int .i64 (n : Nat) := hk.same 7 (by simp)
        have gd : a1.tmps[52]? = some (.bool true) := getD_bool (hk.deps ⟨15, .guard⟩ (by simp) rfl _ _ rfl rfl)
        simp [Region.wanted, Oper.wp, Act.eval, go_sem, e7, gd, yielded]
        exact hK _ _ (Below.refl _ _) rfl
        | 17, _ =>
        obtain rfl := Option.some.inj ho
        intro a1 w1 K hk hK
        have e0 : a1.tmps.getD 0 undef = .int .i64 (n : Nat) := hk.same 0 (by simp)
        have gd : a1.tmps[52]? = some (.bool true) := getD_bool (hk.deps ⟨15, .guard⟩ (by simp) rfl _ _ rfl rfl)
        simp [Region.wanted, Oper.wp, Act.eval, go_sem, e0, gd, yielded]
        exact hK _ _ (Below.refl _ _) rfl
        | 18, _ =>
        obtain rfl := Option.some.inj ho
        intro a1 w1 K hk hK
        have d53 : a1.tmps.getD 53 undef = .int .i64 (n : Nat) := hk.deps ⟨16, .data⟩ (by simp) rfl _ _ rfl rfl
        have d54 : a1.tmps.getD 54 undef = .int .i64 (n : Nat) := hk.deps ⟨17, .data⟩ (by simp) rfl _ _ rfl rfl
        have gd : a1.tmps[52]? = some (.bool true) := getD_bool (hk.deps ⟨15, .guard⟩ (by simp) rfl _ _ rfl rfl)
        simp [Region.wanted, Oper.wp, Act.eval, go_sem, d53, d54, gd, yielded]
        exact hK _ _ (Below.refl _ _) rfl
        | 19, _ =>
        obtain rfl := Option.some.inj ho
        intro a1 w1 K hk hK
        have D52 : (a1.tmps.getD 52 undef) = .bool true := hk.deps ⟨15, .data⟩ (by simp) rfl _ _ rfl rfl
        have d55 : a1.tmps.getD 55 undef = .bool true := hk.deps ⟨18, .data⟩ (by simp) rfl _ _ rfl rfl
        simp [Region.wanted, Oper.wp, Act.eval, go_sem, D52, d55]
        exact hK _ _ (Below.refl _ _) rfl
        | 20, _ =>
        obtain rfl := Option.some.inj ho
        intro a1 w1 K hk hK
        have D56 : (a1.tmps.getD 56 undef) = .bool true := hk.deps ⟨19, .data⟩ (by simp) rfl _ _ rfl rfl
        simp [Region.wanted, Oper.wp, Act.eval, go_sem, D56]
        exact hK _ _ (Below.refl _ _) rfl
        | 21, _ =>
        obtain rfl := Option.some.inj ho
        intro a1 w1 K hk hK
        have e8 : a1.tmps.getD 8 undef = .slice AM nM cM := hk.same 8 (by simp)
        have gd : a1.tmps[57]? = some (.bool true) := getD_bool (hk.deps ⟨20, .guard⟩ (by simp) rfl _ _ rfl rfl)
        simp [Region.wanted, Oper.wp, Act.eval, go_sem, e8, gd, yielded]
        exact hK _ _ (Below.refl _ _) rfl
        | 22, _ =>
        obtain rfl := Option.some.inj ho
        intro a1 w1 K hk hK
        have e1 : a1.tmps.getD 1 undef = .slice AL nL cL := hk.same 1 (by simp)
        have gd : a1.tmps[57]? = some (.bool true) := getD_bool (hk.deps ⟨20, .guard⟩ (by simp) rfl _ _ rfl rfl)
        simp [Region.wanted, Oper.wp, Act.eval, go_sem, e1, gd, yielded]
        exact hK _ _ (Below.refl _ _) rfl
        | 23, _ =>
        obtain rfl := Option.some.inj ho
        intro a1 w1 K hk hK
        have d58 : a1.tmps.getD 58 undef = .slice AM nM cM := hk.deps ⟨21, .data⟩ (by simp) rfl _ _ rfl rfl
        have d59 : a1.tmps.getD 59 undef = .slice AL nL cL := hk.deps ⟨22, .data⟩ (by simp) rfl _ _ rfl rfl
        have gd : a1.tmps[57]? = some (.bool true) := getD_bool (hk.deps ⟨20, .guard⟩ (by simp) rfl _ _ rfl rfl)
        simp [Region.wanted, Oper.wp, Act.eval, go_sem, d58, d59, gd, yielded]
        refine (HSm.out w1 (below_trans (drewN_below wr 1) hk.ext)).mono ?_
        rintro e w2 ⟨rfl, q, rfl⟩
        exact hK _ _ (drewN_below w1 q) rfl
        | 24, _ =>
        obtain rfl := Option.some.inj ho
        intro a1 w1 K hk hK
        have D57 : (a1.tmps.getD 57 undef) = .bool true := hk.deps ⟨20, .data⟩ (by simp) rfl _ _ rfl rfl
        have D60 : (a1.tmps.getD 60 undef) = .bool true := hk.deps ⟨23, .data⟩ (by simp) rfl _ _ rfl rfl
        simp [Region.wanted, Oper.wp, Act.eval, go_sem, D57, D60]
        exact hK _ _ (Below.refl _ _) rfl
        | k + 25, hk => exact absurd hk (by omega)
      · intro vs w3 hl hb3 hv
        match vs, hl with
        | [v0, v1, v2, v3, v4, v5, v6, v7, v8, v9, v10, v11, v12, v13, v14, v15, v16, v17, v18, v19, v20, v21, v22, v23, v24], _ =>
        obtain rfl : v0 = .int .i64 0 := hv 0 (by omega)
        obtain rfl : v1 = .bool true := hv 1 (by omega)
        obtain rfl : v2 = .bool true := hv 2 (by omega)
        obtain rfl : v3 = .slice AB (Pk.bytes n l).length cB := hv 3 (by omega)
        have q4 : v4 = .string ⟨(Pk.u8 (Pk.bytes n l)).toArray⟩ := hv 4 (by omega)
        obtain rfl : v5 = .int .i64 (n : Nat) := hv 5 (by omega)
        obtain rfl : v6 = .slice AL nL cL := hv 6 (by omega)
        have q7 : ∃ A9 n9 c9, v7 = .slice A9 n9 c9 ∧ RdB w3 (.slice A9 n9 c9) (Pk.bytes n l) := hv 7 (by omega)
        have q8 : v8 = .string ⟨(Pk.u8 (Pk.bytes n l)).toArray⟩ := hv 8 (by omega)
        have q9 : v9 = .bool true := hv 9 (by omega)
        have q10 : v10 = .bool true := hv 10 (by omega)
        have q11 : v11 = .bool true := hv 11 (by omega)
        obtain rfl : v12 = .int .i64 0 := hv 12 (by omega)
        obtain rfl : v13 = .bool true := hv 13 (by omega)
        have q14 : v14 = .bool true := hv 14 (by omega)
        have q15 : v15 = .bool true := hv 15 (by omega)
        obtain rfl : v16 = .int .i64 (n : Nat) := hv 16 (by omega)
        obtain rfl : v17 = .int .i64 (n : Nat) := hv 17 (by omega)
        obtain rfl : v18 = .bool true := hv 18 (by omega)
        have q19 : v19 = .bool true := hv 19 (by omega)
        have q20 : v20 = .bool true := hv 20 (by omega)
        obtain rfl : v21 = .slice AM nM cM := hv 21 (by omega)
        obtain rfl : v22 = .slice AL nL cL := hv 22 (by omega)
        have q23 : v23 = .bool true := hv 23 (by omega)
        have q24 : v24 = .bool true := hv 24 (by omega)
        clear hv
        simp only [putAll, List.take_succ_cons, List.take_zero, List.drop_succ_cons, List.drop_zero, Act.put, List.setIfInBounds_toArray, List.set_cons_succ, List.set_cons_zero]
        have HB5 := Lib.hid (HB4.out.trans ((show Below wr.heap.size wr w3 by first | exact hb3 | exact below_trans (drewN_below wr 1) hb3).mono HB4.out.size))
        subst q24
        clear hb3
        go_wp2_with fail
        go_ret
        exact ⟨rfl, HB5.out⟩
end Go.Proofs.Ytlmgabhdeeehmaa
