/-
  Texts that the proof of BulkTurns leans on, part 8: contracts of functions, and plain laws.
-/
import Derived.Test.YtjokcagggmjgmaaGreatMBulkTurns7
/-! LawTurns -/
namespace Go.Proofs.YtjokcagggmjgmaaGreat
open Go.RowKit
set_option linter.unusedVariables false
set_option linter.unusedSimpArgs false
set_option maxRecDepth 100000

/-- a row in order, put in from its end -/
theorem puts_rev {l : List En} (h : Od.Asc En.key l) : putsL [] l.reverse = l := by
  induction l with
  | nil => rfl
  | cons a t ih =>
    have h2 := List.pairwise_cons.1 h
    rw [List.reverse_cons, puts_append, ih h2.2]
    show insE a.p a.v t = a :: t
    unfold insE
    cases t with
    | nil => rfl
    | cons b t =>
      have h3 := h2.1 b (List.mem_cons_self ..)
      have h4 : En.key (⟨a.p, a.v⟩ : En) = a.key := rfl
      simp only [Od.ins, h4]
      rw [if_neg (by omega), if_neg (by omega)]
theorem drop_rev (l : List En) (q : Nat) (h : q < l.length) : (l.drop q).reverse = (l.drop (q + 1)).reverse ++ [l[q]] := by
  rw [← List.getElem_cons_drop h, List.reverse_cons]
theorem sh_ok {w : World} {t k : Nat} {l : List En} (ht : TrR w t k l) (he : EtS k l) : (shapesL l).length ≤ 100000 ∧ ∀ s ∈ shapesL l, s.pre.length ≤ 100 ∧ s.pl.length ≤ 100000 := by
  obtain ⟨r, c1, hr⟩ := ht.c1
  cases r with
  | none => obtain rfl : l = [] := hr; exact ⟨by decide, fun s hs => by simp [shapesL, shapesF] at hs⟩
  | some b => exact ⟨by have := (Nd.tn hr).len; have := he.short; omega, (Nd.tn hr).sh_small he.k40 he.short⟩
set_option maxHeartbeats 8000000 in
theorem bulkTurns_any (w : World) (k : Int) (l : List En) (vl : Value) (hv : RdE w vl l) (hvo : ∀ e ∈ l, e.OkV) (hvl : l.length ≤ maxLen) :
    Calls Tryz.prog 6 #[.int .i64 k, vl] w fun e w' => e = .returned (.bool true) ∧ Below w.heap.size w w' := by
  have HAW := Lib.hid (fun w' => awk_any w')
  have HHE := Lib.hid (fun w' (hb : Below w.heap.size w w') => heavyE_any w' l vl 50 (hv.below hb) hvl)
  have HV := Lib.hid (And.intro hv (And.intro hvo hvl))
  obtain ⟨A2, cq, rfl, z2⟩ := hv
  clear z2 hvo hvl
  obtain ⟨hh, hhe⟩ : ∃ b, heavyE l 50 = b := ⟨_, rfl⟩
  rw [hhe] at HHE
  have HHH := Lib.hid hhe
  clear hhe
  cases hh with
  | true =>
    go_enter Tryz.func6, Tryz.ntmps6
    go_wp2_with fail
    refine (HAW.out _).mono ?_
    rintro e w1 ⟨rfl, hb1⟩
    have HB := Lib.hid hb1
    clear hb1
    go_wp2_with fail
    refine (HHE.out _ HB.out).mono ?_
    rintro e w2 ⟨rfl, hw⟩
    obtain rfl := hw.symm
    clear hw
    go_wp2_with fail
    go_ret
    exact ⟨rfl, HB.out⟩
  | false =>
    by_cases h1 : k < 1
    · go_enter Tryz.func6, Tryz.ntmps6
      go_wp2_with fail
      refine (HAW.out _).mono ?_
      rintro e w1 ⟨rfl, hb1⟩
      have HB := Lib.hid hb1
      clear hb1
      go_wp2_with fail
      refine (HHE.out _ HB.out).mono ?_
      rintro e w2 ⟨rfl, hw⟩
      obtain rfl := hw.symm
      clear hw
      go_wp2_with fail
      go_ret
      exact ⟨rfl, HB.out⟩
    · by_cases h2 : k > 16
      · go_enter Tryz.func6, Tryz.ntmps6
        go_wp2_with fail
        refine (HAW.out _).mono ?_
        rintro e w1 ⟨rfl, hb1⟩
        have HB := Lib.hid hb1
        clear hb1
        go_wp2_with fail
        refine (HHE.out _ HB.out).mono ?_
        rintro e w2 ⟨rfl, hw⟩
        obtain rfl := hw.symm
        clear hw
        go_wp2_with fail
        go_ret
        exact ⟨rfl, HB.out⟩
      · obtain ⟨n, rfl⟩ : ∃ n : Nat, k = n := ⟨k.toNat, by omega⟩
        have hokE := heavyE_ok HHH.out
        have hl50 : l.length ≤ 50 := hokE.1
        have n1 : 1 ≤ n := by omega
        have n16 : n ≤ 16 := by omega
        have HRD := Lib.hid (fun W (hb : Below w.heap.size w W) => rDims_any W (n : Nat) l _ (HV.out.1.below hb) (by omega))
        cases hdm : dimsL (n : Nat) l with
        | false =>
          rw [hdm] at HRD
          clear hokE hl50 n1 n16 hdm
          go_enter Tryz.func6, Tryz.ntmps6
          go_wp2_with fail
          refine (HAW.out _).mono ?_
          rintro e w1 ⟨rfl, hb1⟩
          have HB := Lib.hid hb1
          clear hb1
          go_wp2_with fail
          refine (HHE.out _ HB.out).mono ?_
          rintro e w2 ⟨rfl, hw⟩
          obtain rfl := hw.symm
          clear hw
          go_wp2_with fail
          refine (HRD.out _ HB.out).mono ?_
          rintro e w2 ⟨rfl, hw⟩
          obtain rfl := hw.symm
          clear hw
          go_wp2_with fail
          go_ret
          exact ⟨rfl, HB.out⟩
        | true =>
          have hlk := dimsL_true hdm
          have hkk : ∀ e ∈ l, e.p.length = n ∧ ∀ q ∈ e.p, q < 2 ^ 64 := fun e he => ⟨hlk e he, (HV.out.2.1 e he).1⟩
          have HMK := Lib.hid (fun W (hb : Below w.heap.size w W) => make_any 1000 sort_any W n l _ (HV.out.1.below hb) (by omega) (by omega) n1 n16 hkk (fun e he => (HV.out.2.1 e he).2))
          have HAL := Lib.hid (fun W (hb : Below w.heap.size w W) => rAll_any W n l _ (HV.out.1.below hb) (by omega) (by omega) hkk)
          have hes : EtS n (putsL [] l) := ⟨(Et.nil n).puts hkk, by omega, Nat.le_trans (puts_len _ _) (by simp; omega)⟩
          have hln : (putsL [] l).length ≤ 50 := by have := puts_len [] l; simp at this; omega
          obtain ⟨one, hone⟩ : ∃ x, putsL [] l = x := ⟨_, rfl⟩
          rw [hone] at HMK HAL hes hln
          have HML := Lib.hid (fun W v (hr : RdE W v one.reverse) (hvs : ∀ e ∈ one, e.v < 2 ^ 64) => make_any 1000 sort_any W n one.reverse v hr (by rw [List.length_reverse]; omega) (by rw [List.length_reverse]; omega) n1 n16 (fun e he => ⟨hes.et.len e (List.mem_reverse.1 he), hes.et.ok e (List.mem_reverse.1 he)⟩) (fun e he => hvs e (List.mem_reverse.1 he)))
          rw [puts_rev hes.et.asc] at HML
          have HES := Lib.hid (And.intro hes hln)
          rw [hdm] at HRD
          clear hokE hl50 n1 n16 hdm hlk hkk hone hes hln
          go_enter Tryz.func6, Tryz.ntmps6
          go_wp2_with fail
          refine (HAW.out _).mono ?_
          rintro e w1 ⟨rfl, hb1⟩
          have HB := Lib.hid hb1
          clear hb1
          go_wp2_with fail
          refine (HHE.out _ HB.out).mono ?_
          rintro e w2 ⟨rfl, hw⟩
          obtain rfl := hw.symm
          clear hw
          go_wp2_with fail
          refine (HRD.out _ HB.out).mono ?_
          rintro e w2 ⟨rfl, hw⟩
          obtain rfl := hw.symm
          clear hw
          go_wp2_with fail
          refine (HAL.out _ HB.out).mono ?_
          rintro e w2 ⟨v2, rfl, hr2, hb2⟩
          have HB2 := Lib.hid (HB.out.trans (hb2.mono HB.out.size))
          have HR2 := Lib.hid hr2
          obtain ⟨A3, c3, rfl, _, hx⟩ := hr2
          have HX := Lib.hid hx
          have HW0 := Lib.hid (show wrap64 ((one.length : Int) - 1) = (one.length : Int) - 1 by have := HES.out.2; unfold wrap64; omega)
          clear hb2 hx
          go_wp2_with fail
          rw [HW0.out]
          go_loopw [6, 7] (fun vo i wr => ∃ (m : Nat) (z : Int), z + 1 = m ∧ m ≤ one.length ∧ i = .int .i64 z ∧ OwnE w2 wr vo ((one.drop m).reverse) ∧ Below w2.heap.size w2 wr) (fun _ i _ => (intOf i + 1).toNat)
          case atStart => exact ⟨one.length, (one.length : Int) - 1, by omega, Nat.le_refl _, rfl, by rw [List.drop_length]; exact OwnE.lit (Nat.le_refl _) rfl, (by repeat (first | exact Below.refl _ _ | (refine Below.drew ?_) | (refine below_drewN' ?_ _) | (refine below_alloc' ?_ _) | (refine Below.setCell ?_ (by first | exact Nat.le_refl _ | (simp; done) | (simp; omega)) _)))⟩
          case round =>
            obtain ⟨m, z, hz, hm, rfl, hown, hb⟩ := hrel
            have HB5 := Lib.hid hb
            by_cases h0 : m = 0
            · subst h0
              obtain rfl : z = -1 := by omega
              rw [List.drop_zero] at hown
              have HRV := Lib.hid (hown.rd hb)
              obtain ⟨A5, c5, rfl⟩ : ∃ A c, u6 = .slice A one.length c := by obtain ⟨A, c, e, _⟩ := hown.rd hb; rw [List.length_reverse] at e; exact ⟨A, c, e⟩
              have HB6 := Lib.hid (HB2.out.trans (hb.mono HB2.out.size))
              clear hown hb hz hm HB5
              go_wp2_with fail
              refine (HMK.out _ HB6.out).mono ?_
              rintro e w3 ⟨ta, rfl, hta, hb3⟩
              have HB7 := Lib.hid (HB6.out.trans (hb3.mono HB6.out.size))
              have HTA := Lib.hid hta
              have HM2 := Lib.hid (HML.out w3 _ (HRV.out.below hb3) hta.vlt)
              clear hta hb3
              go_wp2_with fail
              refine (HM2.out).mono ?_
              rintro e w4 ⟨tb, rfl, htb, hb4⟩
              have HB8 := Lib.hid (HB7.out.trans (hb4.mono HB7.out.size))
              have HTT := Lib.hid (And.intro (HTA.out.bel hb4) htb)
              have HSM := same_any w4 ta tb n one one HTT.out.1 HTT.out.2 (by have := HES.out.2; omega)
              rw [chg_self HTT.out.2.et] at HSM
              have HSM := Lib.hid HSM
              have HSA := Lib.hid (fun W (hb : Below w4.heap.size w4 W) => tshapes_any W ta n one (HTT.out.1.bel hb) HES.out.1.short)
              have HSB := Lib.hid (fun W (hb : Below w4.heap.size w4 W) => tshapes_any W tb n one (HTT.out.2.bel hb) HES.out.1.short)
              have HSS := Lib.hid (fun W x y (hx : RdS (PtR W) W x (shapesL one)) (hy : RdS (PtR W) W y (shapesL one)) => rSameShapes W x y (shapesL one) hx hy (sh_ok HTT.out.2 HES.out.1).1 (sh_ok HTT.out.2 HES.out.1).2)
              clear htb hb4
              go_wp2_with fail
              refine (HSM.out).mono ?_
              rintro e w5 ⟨rfl, hb5⟩
              have HC5 := Lib.hid hb5
              clear hb5
              go_wp2_with fail
              refine (HSA.out _ HC5.out).mono ?_
              rintro e w6 ⟨x1, rfl, ho1, hb6⟩
              have HX1 := Lib.hid ((ho1.mono (PtK.rd hb6)).rd)
              have HC6 := Lib.hid (HC5.out.trans (hb6.mono HC5.out.size))
              clear ho1 hb6
              go_wp2_with fail
              refine (HSB.out _ HC6.out).mono ?_
              rintro e w7 ⟨x2, rfl, ho2, hb7⟩
              have HX2 := Lib.hid ((ho2.mono (PtK.rd hb7)).rd)
              have HX3 := Lib.hid ((HX1.out.mono (PtR.below hb7)).below hb7)
              have HC7 := Lib.hid (HC6.out.trans (hb7.mono HC6.out.size))
              clear ho2 hb7
              go_wp2_with fail
              refine (HSS.out _ _ _ HX3.out HX2.out).mono ?_
              rintro e w8 ⟨rfl, hb8⟩
              have HC8 := Lib.hid (HB8.out.trans ((HC7.out.trans (hb8.mono HC7.out.size)).mono HB8.out.size))
              clear hb8
              go_wp2_with fail
              go_ret
              exact ⟨rfl, HC8.out⟩
            · obtain ⟨q, rfl⟩ : ∃ q, m = q + 1 := ⟨m - 1, by omega⟩
              obtain rfl : z = (q : Int) := by omega
              have h3 : (q : Int) < one.length := by omega
              have h5 : (0 : Int) ≤ (q : Int) := by omega
              have HW := Lib.hid (show wrap64 ((q : Int) - 1) = (q : Int) - 1 by have := HES.out.2; unfold wrap64; omega)
              have HQ := Lib.hid (show q < one.length by omega)
              obtain ⟨bk, ofs, rfl, hc⟩ := HX.out (by omega)
              obtain ⟨u, k0, ku, k1⟩ := hc q (by omega)
              have HKU := Lib.hid (show RdU w2 u (pti one[q].p) from ku)
              replace k0 := Below.keeps hb _ _ k0
              replace k1 := Below.keeps hb _ _ k1
              have HDR := Lib.hid (drop_rev one q HQ.out)
              have HOW := Lib.hid hown
              obtain ⟨A5, c5, rfl⟩ : ∃ A c, u6 = .slice A ((one.drop (q + 1)).reverse).length c := by obtain ⟨A, c, e, _⟩ := hown.rd hb; exact ⟨A, c, e⟩
              obtain ⟨A0, cc, rfl, _⟩ := RdU.point ku
              have hblt : bk < wr.heap.size := World.block_lt_of_cell? wr _ k0
              have HLN := Lib.hid (show ((one.drop (q + 1)).reverse).length ≤ 50 by rw [List.length_reverse, List.length_drop]; have := HES.out.2; omega)
              generalize (one.drop (q + 1)).reverse = cur at *
              clear hc ku hb hown hz h0
              go_wp2_with ((at_builtin; refine wpList_append_E rfl (.tmp 41) (.tmp 46) rfl w2 cur [one[q]] ?_ ?_ ?_ ?_ ?_))
              · exact HOW.out.alloc _
              · exact SrcE.one (by simp [go_sem]) HKU.out (by simp [go_sem])
              · exact below_trans HB5.out (by repeat (first | exact Below.refl _ _ | (refine Below.drew ?_) | (refine below_drewN' ?_ _) | (refine below_alloc' ?_ _) | (refine Below.setCell ?_ (by first | exact Nat.le_refl _ | (simp; done) | (simp; omega)) _)))
              · have := HLN.out; simp; omega
              intro v6 w6 hown6 hb6
              obtain ⟨A6, c6, rfl⟩ : ∃ A c, v6 = .slice A (cur ++ [one[q]]).length c := by obtain ⟨A, c, e, _⟩ := hown6.rd hb6; exact ⟨A, c, e⟩
              have HF := Lib.hid (And.intro hown6 hb6)
              clear hown6 hb6
              go_wp2_with fail
              try rw [HW.out]
              go_roundw
              case rel => exact ⟨q, (q : Int) - 1, by omega, by have := HQ.out; omega, (by first | rw [HW.out] | rfl), by rw [HDR.out]; exact HF.out.1, HF.out.2⟩
              case measure => first | (rw [HW.out]; simp [intOf]; omega) | (simp [intOf]; omega) | (simp [intOf] <;> omega)
end Go.Proofs.YtjokcagggmjgmaaGreat
