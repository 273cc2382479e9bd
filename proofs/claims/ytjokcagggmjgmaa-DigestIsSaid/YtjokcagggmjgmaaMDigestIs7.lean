/-
  Texts that the proof of DigestIs leans on, part 7: contracts of functions, and plain laws.
-/
import Derived.Test.YtjokcagggmjgmaaMDigestIs6
/-! LawDigIs -/
namespace Go.Proofs.Ytjokcagggmjgmaa
open Go.RowKit
set_option linter.unusedVariables false
set_option linter.unusedSimpArgs false
set_option maxRecDepth 100000

theorem heavyA_ok9 {l : List Ac} {most : Nat} (h : heavyL l most = false) : l.length ≤ most ∧ ∀ a ∈ l, a.p.length ≤ 40 := by
  unfold heavyL at h
  rw [Bool.or_eq_false_iff] at h
  refine ⟨by have := of_decide_eq_false h.1; omega, fun a ha => ?_⟩
  have := List.any_eq_false.1 h.2 a ha
  simp at this
  omega
theorem Nd.vlt' {w : World} {k b : Nat} {l : List En} (h : Nd w k b l) : ∀ e ∈ l, e.v < 2 ^ 64 := by
  induction h with
  | leaf b p v h hp ho hv =>
    intro e he
    obtain rfl : e = ⟨p, v⟩ := by simpa using he
    exact hv
  | node b s n pre ks h hs hkd hn ih =>
    intro e he
    obtain ⟨x, hx, he⟩ := mem_cat.1 he
    obtain ⟨y, hy, rfl⟩ := List.mem_map.1 hx
    exact ih y hy e he
theorem TrR.vlt' {w : World} {k t : Nat} {l : List En} (h : TrR w t k l) : ∀ e ∈ l, e.v < 2 ^ 64 := by
  obtain ⟨r, _, h2⟩ := h.c1
  cases r with
  | none => obtain rfl : l = [] := h2; intro e he; simp at he
  | some b => exact Nd.vlt' h2
theorem rnode_any (w : World) (k : Nat) (l : List En) (v : Value) (h : l = [] ∨ Tn k l) (k16 : k ≤ 16) (hv : RdE w v l) (he : EtS k l) : Calls Try.prog 12 #[v] w fun e w' => e = .returned (.int .u64 (digL l)) ∧ Below w.heap.size w w' := by
  rcases h with rfl | h
  · exact rnode_nil w v hv
  · exact rnode_tn h k16 w v hv he
set_option maxHeartbeats 8000000 in
theorem digestIs_any (w : World) (k : Int) (l : List Ac) (vl : Value) (way : List Int) (vw : Value) (hl : RdA w vl l) (hlo : ∀ a ∈ l, a.OkV) (hll : l.length ≤ maxLen) (hw : RdI w vw way) :
    Calls Try.prog 6 #[.int .i64 k, vl, vw] w fun e w' => e = .returned (.bool true) ∧ Below w.heap.size w w' := by
  have HAW := Lib.hid (fun w' => awakeD_any w')
  have HHE := Lib.hid (fun w' (hb : Below w.heap.size w w') => heavyA_any w' l vl 30 (hl.below hb) hll)
  have HV := Lib.hid (And.intro hl (And.intro hlo hw))
  obtain ⟨A1, q1, rfl, z1⟩ := hl
  obtain ⟨A2, q2, rfl, z2⟩ := hw.slice
  clear z1 z2 hlo hll hw
  obtain ⟨h1, hh1⟩ : ∃ b, heavyL l 30 = b := ⟨_, rfl⟩
  rw [hh1] at HHE
  have HHH := Lib.hid hh1
  clear hh1
  cases h1 with
  | true =>
    go_enter Try.func6, Try.ntmps6
    go_wp2_with fail
    refine (HAW.out _).mono ?_
    rintro e w1 ⟨rfl, hb1⟩
    have HB := Lib.hid hb1
    clear hb1
    go_wp2_with fail
    refine (HHE.out _ HB.out).mono ?_
    rintro e w2 ⟨rfl, hw⟩
    obtain rfl := hw.symm
    clear hw
    go_wp2_with fail
    go_ret
    exact ⟨rfl, HB.out⟩
  | false =>
    by_cases g1 : k < 1
    · go_enter Try.func6, Try.ntmps6
      go_wp2_with fail
      refine (HAW.out _).mono ?_
      rintro e w1 ⟨rfl, hb1⟩
      have HB := Lib.hid hb1
      clear hb1
      go_wp2_with fail
      refine (HHE.out _ HB.out).mono ?_
      rintro e w2 ⟨rfl, hw⟩
      obtain rfl := hw.symm
      clear hw
      go_wp2_with fail
      go_ret
      exact ⟨rfl, HB.out⟩
    · by_cases g2 : k > 16
      · go_enter Try.func6, Try.ntmps6
        go_wp2_with fail
        refine (HAW.out _).mono ?_
        rintro e w1 ⟨rfl, hb1⟩
        have HB := Lib.hid hb1
        clear hb1
        go_wp2_with fail
        refine (HHE.out _ HB.out).mono ?_
        rintro e w2 ⟨rfl, hw⟩
        obtain rfl := hw.symm
        clear hw
        go_wp2_with fail
        go_ret
        exact ⟨rfl, HB.out⟩
      · by_cases g3 : (way.length : Int) > 70
        · go_enter Try.func6, Try.ntmps6
          go_wp2_with fail
          refine (HAW.out _).mono ?_
          rintro e w1 ⟨rfl, hb1⟩
          have HB := Lib.hid hb1
          clear hb1
          go_wp2_with fail
          refine (HHE.out _ HB.out).mono ?_
          rintro e w2 ⟨rfl, hw⟩
          obtain rfl := hw.symm
          clear hw
          go_wp2_with fail
          go_ret
          exact ⟨rfl, HB.out⟩
        · obtain ⟨n, rfl⟩ : ∃ n : Nat, k = n := ⟨k.toNat, by omega⟩
          have o1 := heavyA_ok9 HHH.out
          have n1 : 1 ≤ n := by omega
          have n16 : n ≤ 16 := by omega
          have l30 : l.length ≤ 30 := o1.1
          have ok1 : ∀ a ∈ l, a.Ok := fun a ha => ⟨o1.2 a ha, (HV.out.2.1 a ha).1, (HV.out.2.1 a ha).2⟩
          have HGR := Lib.hid (fun W (hb : Below w.heap.size w W) => grown_any W n l _ n1 n16 (HV.out.1.below hb) ok1 (by omega))
          have hes : EtS n (playL n [] l) := EtS.play ⟨Et.nil n, by omega, by simp⟩ _ ok1 (by simp; omega)
          have hil : (playL n [] l).length ≤ 30 := by have := play_len n [] l; simp at this; omega
          obtain ⟨in_, hin_⟩ : ∃ x, playL n [] l = x := ⟨_, rfl⟩
          rw [hin_] at hes hil
          have HIN := Lib.hid hin_
          have HES := Lib.hid (And.intro hes (And.intro hil (And.intro n1 n16)))
          have HWL := Lib.hid (show way.length ≤ 70 by omega)
          have HMK := Lib.hid (fun W v (hv : RdE W v in_) (hvs : ∀ e ∈ in_, e.v < 2 ^ 64) => make_any 1000 sort_any W n in_ v hv (by omega) (by omega) n1 n16 (fun e he => ⟨hes.et.len e he, hes.et.ok e he⟩) hvs)
          rw [puts_id hes.et] at HMK
          have HWU := Lib.hid (show IntKind.u64.wrap (n : Int) = (n : Int) by rw [IntKind.wrap_u64]; omega)
          have HTT := Lib.hid (fun W t (h : TrR W t n in_) => dtree_any W t n in_ h)
          have HAT := Lib.hid (fun W t v (h : TrR W t n in_) (hv : RdI W v way) => dat_any W t n in_ way v h hv (by omega))
          clear o1 n1 n16 l30 ok1 hes hil hin_
          go_enter Try.func6, Try.ntmps6
          go_wp2_with fail
          refine (HAW.out _).mono ?_
          rintro e w1 ⟨rfl, hb1⟩
          have HB := Lib.hid hb1
          clear hb1
          go_wp2_with fail
          refine (HHE.out _ HB.out).mono ?_
          rintro e w2 ⟨rfl, hw⟩
          obtain rfl := hw.symm
          clear hw
          go_wp2_with fail
          refine (HGR.out _ HB.out).mono ?_
          rintro e w2 ⟨t, vin, rfl, ht, hin, hb2⟩
          rw [HIN.out] at ht hin
          have HB2 := Lib.hid (HB.out.trans (hb2.mono HB.out.size))
          have HT2 := Lib.hid (And.intro ht hin)
          have HM2 := Lib.hid (HMK.out w2 vin hin ht.vlt')
          obtain ⟨r, c1, hrt⟩ := ht.c1
          have HTN := Lib.hid hrt.tn
          have HRN := Lib.hid (fun W v (hv : RdE W v in_) => rnode_any W n in_ v hrt.tn HES.out.2.2.2 hv HES.out.1)
          have HND2 := Lib.hid (fun w' (hb : Below w2.heap.size w2 w') => dnode_any w' n r in_ (hrt.below hb) HES.out.2.2.1 HES.out.2.2.2)
          obtain ⟨q, hq⟩ := pv_ex r
          rw [hq] at HND2 c1
          have HRT2 := Lib.hid (fun w' (hb : Below w2.heap.size w2 w') => troot_any w' t q (Below.keeps hb _ _ c1))
          obtain ⟨A3, q3, rfl, _⟩ := hin
          clear ht hb2 c1 hrt hq
          go_wp2_with fail
          refine (HM2.out).mono ?_
          rintro e w3 ⟨u, rfl, hu, hb3⟩
          have HX3 := Lib.hid (show Below w2.heap.size w2 w3 from hb3)
          have HT := Lib.hid (And.intro (HT2.out.1.bel hb3) (And.intro hu (HT2.out.2.below hb3)))
          clear hu hb3
          go_wp2_with fail
          (try rw [HWU.out])
          refine (rStir_any _ _ _).mono ?_
          rintro e w4 ⟨rfl, hw⟩
          obtain rfl := hw.symm
          clear hw
          go_wp2_with fail
          refine (HRN.out w3 _ HT.out.2.2).mono ?_
          rintro e w4 ⟨rfl, hb4⟩
          have HY4 := Lib.hid (show Below w3.heap.size w3 w4 from hb4)
          clear hb4
          go_wp2_with fail
          refine (rStir_any _ _ _).mono ?_
          rintro e w5 ⟨rfl, hw⟩
          obtain rfl := hw.symm
          clear hw
          have hbas : stirI (stirI 14695981039346656037 (n : Nat)) (digL in_) = stirI (stirI basisI (n : Nat)) (digL in_) := rfl
          rw [hbas]
          clear hbas
          go_wp2_with fail
          refine (HAT.out w4 t _ (HT.out.1.bel HY4.out) (HV.out.2.2.below (HB2.out.trans ((HX3.out.trans (HY4.out.mono HX3.out.size)).mono HB2.out.size)))).mono ?_
          rintro e w5 ⟨rfl, hb5⟩
          have HY5 := Lib.hid (HY4.out.trans (hb5.mono HY4.out.size))
          have HB5 := Lib.hid (HB2.out.trans ((HX3.out.trans (HY5.out.mono HX3.out.size)).mono HB2.out.size))
          clear hb5
          have HWT := Lib.hid (wayL_tn HTN.out HES.out.1)
          go_wp2_with fail
          go_loopw [16, 17] (fun pv iv wr => ∃ (j : Nat), j ≤ way.length ∧ iv = .int .i64 (j : Nat) ∧ RdE wr pv (wayL in_ (way.take j)) ∧ Below w5.heap.size w5 wr) (fun _ iv _ => way.length - (intOf iv).toNat)
          case atStart => exact ⟨0, Nat.zero_le _, rfl, HT.out.2.2.below HY5.out, Below.refl _ _⟩
          case round =>
            obtain ⟨j, hj, rfl, hrd, hb⟩ := hrel
            have HBJ := Lib.hid hb
            by_cases hlt : j < way.length
            · have h3 : (j : Int) < way.length := by omega
              have h5 : (0 : Int) ≤ (j : Int) := by omega
              have HW := Lib.hid (show wrap64 ((j : Int) + 1) = ((j + 1 : Nat) : Int) by have := HWL.out; unfold wrap64; omega)
              obtain ⟨A', c', e', hx⟩ := HV.out.2.2.slice
              simp only [Value.slice.injEq] at e'
              obtain ⟨rfl, _, rfl⟩ := e'
              obtain ⟨bk, ofs, rfl, hc⟩ := hx (by omega)
              have k0 := Below.keeps (HB5.out.trans (hb.mono HB5.out.size)) _ _ (hc j hlt)
              have hbl := World.block_lt_of_cell? wr _ k0
              have HTK := Lib.hid (wayL_take in_ way j hlt)
              have hwt := HWT.out (way.take j)
              have HKD := Lib.hid (fun w' (hb : Below wr.heap.size wr w') => rkid_any w' n (wayL in_ (way.take j)) _ way[j] (hrd.below hb) hwt.2 hwt.1 HES.out.2.2.2)
              obtain ⟨Aj, cj, rfl, _⟩ := hrd
              obtain ⟨lj, hlj⟩ : ∃ x, wayL in_ (way.take j) = x := ⟨_, rfl⟩
              rw [hlj] at HKD HTK ⊢
              generalize way[j] = x at *
              clear hc hx hb hwt hlj
              go_wp2_with fail
              refine (HKD.out _ (by repeat (first | exact Below.refl _ _ | (refine Below.drew ?_) | (refine below_drewN' ?_ _) | (refine below_alloc' ?_ _) | (refine Below.setCell ?_ (by first | exact Nat.le_refl _ | (simp; done) | (simp; omega)) _)))).mono ?_
              rintro e w6 ⟨v6, rfl, hr6, hb6⟩
              have HR6 := Lib.hid (And.intro hr6 ((below_trans HBJ.out (by repeat (first | exact Below.refl _ _ | (refine Below.drew ?_) | (refine below_drewN' ?_ _) | (refine below_alloc' ?_ _) | (refine Below.setCell ?_ (by first | exact Nat.le_refl _ | (simp; done) | (simp; omega)) _)))).trans (hb6.mono (below_trans HBJ.out (by repeat (first | exact Below.refl _ _ | (refine Below.drew ?_) | (refine below_drewN' ?_ _) | (refine below_alloc' ?_ _) | (refine Below.setCell ?_ (by first | exact Nat.le_refl _ | (simp; done) | (simp; omega)) _)))).size)))
              obtain ⟨A6, c6, rfl, _⟩ := hr6
              clear hb6
              go_wp2_with fail
              go_roundw
              case rel => exact ⟨j + 1, by omega, (by first | rw [HW.out] | rfl | simp), by rw [HTK.out]; exact HR6.out.1, HR6.out.2⟩
              case measure => (first | (rw [intOf_of' HW.out, intOf_of' rfl]; omega) | (simp [intOf]; omega) | (simp [intOf] <;> omega))
            · have h3 : ¬ (j : Int) < (way.length : Int) := by omega
              have e : way.take j = way := List.take_of_length_le (by omega)
              rw [e] at hrd
              have hwt := HWT.out way
              have HRP := Lib.hid (fun W (hb : Below wr.heap.size wr W) => rnode_any W n (wayL in_ way) _ hwt.1 HES.out.2.2.2 (hrd.below hb) hwt.2)
              obtain ⟨Ap, cp, rfl, _⟩ := hrd
              have HZ := Lib.hid (HY5.out.trans (hb.mono HY5.out.size))
              have HBZ := Lib.hid (HB5.out.trans (hb.mono HB5.out.size))
              have HBQ := Lib.hid (HX3.out.trans (HZ.out.mono HX3.out.size))
              generalize wayL in_ way = part at *
              obtain ⟨pl, hpl⟩ : ∃ x, part.length = x := ⟨_, rfl⟩
              rw [hpl] at HRP ⊢
              clear hb e hwt
              rcases Nat.eq_zero_or_pos pl with hp | hp
              · subst hp
                have hd : decide (0 < 0) = false := by decide
                rw [hd]
                clear hd hpl
                go_wp2_with fail
                refine (dat_nil _ _).mono ?_
                rintro e w10 ⟨rfl, hb10⟩
                have HG10 := Lib.hid (show Below wr.heap.size wr w10 from hb10)
                clear hb10
                go_wp2_with fail
                refine (HTT.out w10 t (HT.out.1.bel (HZ.out.trans (HG10.out.mono HZ.out.size)))).mono ?_
                rintro e w11 ⟨rfl, hb11⟩
                have HG11 := Lib.hid (HG10.out.trans (hb11.mono HG10.out.size))
                clear hb11
                go_wp2_with fail
                refine (HTT.out w11 u (HT.out.2.1.bel (HZ.out.trans (HG11.out.mono HZ.out.size)))).mono ?_
                rintro e w12 ⟨rfl, hb12⟩
                have HG12 := Lib.hid (HG11.out.trans (hb12.mono HG11.out.size))
                clear hb12
                go_wp2_with fail
                refine (HRT2.out w12 (HBQ.out.trans (HG12.out.mono HBQ.out.size))).mono ?_
                rintro e w13 ⟨rfl, hw⟩
                obtain rfl := hw.symm
                clear hw
                go_wp2_with fail
                refine (HND2.out w12 (HBQ.out.trans (HG12.out.mono HBQ.out.size))).mono ?_
                rintro e w14 ⟨rfl, hb14⟩
                have HG14 := Lib.hid (HG12.out.trans (hb14.mono HG12.out.size))
                clear hb14
                go_wp2_with fail
                refine (HRN.out w14 _ (HT.out.2.2.below (HZ.out.trans (HG14.out.mono HZ.out.size)))).mono ?_
                rintro e w15 ⟨rfl, hb15⟩
                have HG15 := Lib.hid (HG14.out.trans (hb15.mono HG14.out.size))
                clear hb15
                go_wp2_with fail
                refine (HRP.out w15 HG15.out).mono ?_
                rintro e w16 ⟨rfl, hb16⟩
                have HG16 := Lib.hid (HG15.out.trans (hb16.mono HG15.out.size))
                clear hb16
                go_wp2_with fail
                refine (dtree_nil w16).mono ?_
                rintro e w17 ⟨rfl, hb17⟩
                have HG17 := Lib.hid (HG16.out.trans (hb17.mono HG16.out.size))
                clear hb17
                go_wp2_with fail
                go_ret
                exact ⟨rfl, HBZ.out.trans (HG17.out.mono HBZ.out.size)⟩
              · have hd : decide (0 < pl) = true := by simp [hp]
                rw [hd]
                have hp2 : (0 : Int) < (pl : Int) := by omega
                clear hp hd
                go_wp2_with fail
                refine (dat_nil _ _).mono ?_
                rintro e w10 ⟨rfl, hb10⟩
                have HG10 := Lib.hid (show Below wr.heap.size wr w10 from hb10)
                clear hb10
                go_wp2_with fail
                refine (HTT.out w10 t (HT.out.1.bel (HZ.out.trans (HG10.out.mono HZ.out.size)))).mono ?_
                rintro e w11 ⟨rfl, hb11⟩
                have HG11 := Lib.hid (HG10.out.trans (hb11.mono HG10.out.size))
                clear hb11
                go_wp2_with fail
                refine (HTT.out w11 u (HT.out.2.1.bel (HZ.out.trans (HG11.out.mono HZ.out.size)))).mono ?_
                rintro e w12 ⟨rfl, hb12⟩
                have HG12 := Lib.hid (HG11.out.trans (hb12.mono HG11.out.size))
                clear hb12
                go_wp2_with fail
                refine (HRT2.out w12 (HBQ.out.trans (HG12.out.mono HBQ.out.size))).mono ?_
                rintro e w13 ⟨rfl, hw⟩
                obtain rfl := hw.symm
                clear hw
                go_wp2_with fail
                refine (HND2.out w12 (HBQ.out.trans (HG12.out.mono HBQ.out.size))).mono ?_
                rintro e w14 ⟨rfl, hb14⟩
                have HG14 := Lib.hid (HG12.out.trans (hb14.mono HG12.out.size))
                clear hb14
                go_wp2_with fail
                refine (HRN.out w14 _ (HT.out.2.2.below (HZ.out.trans (HG14.out.mono HZ.out.size)))).mono ?_
                rintro e w15 ⟨rfl, hb15⟩
                have HG15 := Lib.hid (HG14.out.trans (hb15.mono HG14.out.size))
                clear hb15
                go_wp2_with fail
                refine (HRP.out w15 HG15.out).mono ?_
                rintro e w16 ⟨rfl, hb16⟩
                have HG16 := Lib.hid (HG15.out.trans (hb16.mono HG15.out.size))
                clear hb16
                go_wp2_with fail
                refine (dtree_nil w16).mono ?_
                rintro e w17 ⟨rfl, hb17⟩
                have HG17 := Lib.hid (HG16.out.trans (hb17.mono HG16.out.size))
                clear hb17
                go_wp2_with fail
                go_ret
                exact ⟨rfl, HBZ.out.trans (HG17.out.mono HBZ.out.size)⟩
end Go.Proofs.Ytjokcagggmjgmaa
/-! OpenI -/
namespace Go.Proofs.Ytjokcagggmjgmaa
open Go.RowKit
set_option linter.unusedVariables false

theorem RdI.mk {w : World} {A : Option Addr} {c : Nat} {xs : List Int} (h : 0 < xs.length → ∃ b o, A = some ⟨b, o, none⟩ ∧ ∀ j (h : j < xs.length), w.cell? ⟨b, o + j, none⟩ = some (.int .i64 xs[j])) : RdI w (.slice A xs.length c) xs := by
  refine ⟨A, c, by rw [List.length_map], fun h0 => ?_⟩
  obtain ⟨b, o, h4, h5⟩ := h (by rwa [List.length_map] at h0)
  refine ⟨b, o, h4, fun j hj => ?_⟩
  rw [List.getElem_map]
  exact h5 j (by rwa [List.length_map] at hj)
theorem RdI.of_row {w : World} {a : Option Addr} {len cap : Nat} {zs : List Int}
    (h : (a = none ∧ len = 0 ∧ cap = 0 ∧ zs = []) ∨ ∃ x, a = some x ∧ len ≤ cap ∧ cap ≤ maxLen ∧ zs.length = cap ∧ (∀ i, i < zs.length → w.cell? (x.add i) = some (.int .i64 (zs.getD i 0))) ∧ ∀ n ∈ zs, (Lit.int .i64 n).wf = true) :
    ∃ xs : List Int, xs.length = len ∧ len ≤ maxLen ∧ RdI w (.slice a len cap) xs := by
  rcases h with ⟨rfl, rfl, rfl, rfl⟩ | ⟨x, rfl, hl, hm, hz, hc, hw⟩
  · exact ⟨[], rfl, Nat.zero_le _, RdI.mk (xs := []) fun h => absurd h (by simp)⟩
  · refine ⟨zs.take len, by simp; omega, by omega, ?_⟩
    have hlen : (zs.take len).length = len := by simp; omega
    have key : RdI w (.slice (some x) (zs.take len).length cap) (zs.take len) := by
      refine RdI.mk fun hp => ?_
      have h0 := hc 0 (by omega)
      obtain ⟨b, o, sp⟩ := x
      have hs : sp = none := by
        cases sp with
        | none => rfl
        | some q => simp [Addr.add, World.cell?] at h0; split at h0 <;> cases h0
      subst hs
      refine ⟨b, o, rfl, fun j hj => ?_⟩
      have := hc j (by omega)
      have e : (⟨b, o, none⟩ : Addr).add j = ⟨b, o + j, none⟩ := by
        unfold Addr.add; split
        · rename_i h; subst h; rfl
        · rfl
      rw [e] at this
      rw [this, List.getElem_take, List.getD_eq_getElem?_getD, List.getElem?_eq_getElem (by omega)]
      rfl
    rwa [hlen] at key
end Go.Proofs.Ytjokcagggmjgmaa
